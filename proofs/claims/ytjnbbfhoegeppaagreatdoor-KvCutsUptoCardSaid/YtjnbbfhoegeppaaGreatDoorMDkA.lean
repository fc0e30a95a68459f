/-
  Texts of the lemmas below the claim, put together: DkM DkA DkB DkC.
-/
import Derived.Test.YtjnbbfhoegeppaaGreatDoorRows
import Derived.Test.YtjnbbfhoegeppaaGreatDoorMKern
import Derived.Test.YtjnbbfhoegeppaaGreatDoorMDkP
import Derived.Maps.RangeWalk
import Derived.Test.YtjnbbfhoegeppaaGreatDoorShelf
section
/-
  A disk of the program's in memory: its row, its map, its files.
-/
set_option linter.unusedSimpArgs false
set_option linter.unusedVariables false
namespace Go.Cv
open Go.RowKit
theorem own_keep {w w' : World} {base : Nat} {e : TypeId} {sz n : Nat} {v : Value} {xs : List Value} {bs : List Nat} (h : w.ownsRow base e sz v n xs) (hk : Keep bs w w') (hb : ∀ g, v.ownBlock = some g → g ∉ bs) : w'.ownsRow base e sz v n xs := by
  refine ⟨h.1, ?_⟩
  rcases h.2 with h2 | ⟨g, cap, cur, hv, hg, hgg, r⟩
  · exact .inl h2
  · exact .inr ⟨g, cap, cur, hv, hg, hk.row hgg (hb g (by rw [hv]; rfl)), r⟩
theorem Keep.grown {w w' : World} {g : Option Nat} {bs : List Nat} (h : w.grownBy w' g) (hg : ∀ k, g = some k → k ∈ bs) : Keep bs w w' :=
  ⟨h.os, h.tape, h.output, h.size, fun k hk hn => h.block k hk fun e => hn (hg k e.symm)⟩
theorem Rd.keep {w w' : World} {A : Option Addr} {xs : List Value} {bs : List Nat} (h : Rd w A xs) (hk : Keep bs w w') (hb : ∀ ad, A = some ad → ad.block ∉ bs) : Rd w' A xs := by
  rcases A with _ | ad
  · intro k v hv
    obtain ⟨ad, e, _⟩ := h k v hv
    cases e
  · exact hk.rd h (hb ad rfl)
theorem own_tight {H : Type} {P : Program} {k : TypeId} {R : Value → Option (DataW H × List MemPlace)} {w : World} {b n : Nat} {es : List (Lit × DataW H)} (h : w.ownsMap P k R b n (.map es)) : w.ownsMap P k R b es.length (.map es) := by
  obtain ⟨a, clock, hb, F, hs, hD⟩ := h
  refine ⟨a, clock, hb, F, ?_, hD⟩
  injection hD with hD
  rw [hD, length_sorted]; simp
theorem own_keepm {H : Type} {P : Program} {k : TypeId} {R : Value → Option (DataW H × List MemPlace)} {w w' : World} {b n : Nat} {D : DataW H} {bs : List Nat} (h : w.ownsMap P k R b n D) (hk : Keep bs w w') (hb : b ∉ bs) : w'.ownsMap P k R b n D := by
  obtain ⟨a, clock, hm, r⟩ := h
  exact ⟨a, clock, hk.row hm hb, r⟩
theorem ranges_keep {H : Type} {P : Program} {k : TypeId} {R : Value → Option (DataW H × List MemPlace)} {w w' : World} {b r n cnt : Nat} {D : DataW H} {left : Lit → Bool} {bs : List Nat} (h : w.ranges P k R b r n D left cnt) (hk : Keep bs w w') (hb : b ∉ bs) (hr : r ∉ bs) : w'.ranges P k R b r n D left cnt := by
  obtain ⟨es, clock, since, seen, c0, h1, F, hs, hD, h2, rest⟩ := h
  exact ⟨es, clock, since, seen, c0, hk.row h1 hb, F, hs, hD, hk.row h2 hr, rest⟩
section
variable {P : Program} {w : World} {ops : Array Oper} {rest : List Oper} {o : Oper} {a : Act} {K : Act → World → Prop} {Q : Exit → Act → World → Prop}
/-- 'append(own row of bytes, what is read)', the row followed. -/
theorem wpList_appbo (hgd : o.guard = none) (s x : Operand) (t e : TypeId)
    (ho : o.op = .call { callee := .builtin .append, args := #[s, x], argTypes := #[t, t] }) (hT : RowT P t e 1)
    (base : Nat) (v : Value) (n : Nat) (xs : List UInt8) (hs : a.eval s = v) (hown : w.ownsRow base e 1 v n (xs.map bv))
    (A : Option Addr) (m c : Nat) (news : List UInt8) (hx : a.eval x = .slice A m c) (hm : news.length = m) (hr : Rd w A (news.map bv))
    (hbytes : n + m ≤ 140737488355328) (hbase : base ≤ w.heap.size)
    (h : ∀ A' c' w', w'.ownsRow base e 1 (.slice A' (n + m) c') (n + m) ((xs ++ news).map bv) → n + m ≤ c' → c' ≤ maxLen → ((Value.slice A' (n + m) c').ownBlock = v.ownBlock ∨ (Value.slice A' (n + m) c').ownBlock = some w.heap.size) → w.grownBy w' v.ownBlock → wpList P ops Q rest (a.put o.dst (.slice A' (n + m) c')) w') : wpList P ops Q (o :: rest) a w :=
  wpList_plain hgd fun _ hK => by
    obtain ⟨ht, z, i, hi, hz, hsize, hby, hzs⟩ := hT
    refine wp_append_rd w s x t ho base e i z 1 ht hi hz hsize hby hzs v n _ hs hown A m c _ hx (by simpa using hm) hr (one_map_bv _) (by unfold maxLen; omega) (by omega) hbase fun v' w' h2 h3 h4 => ?_
    obtain ⟨A', c', rfl, hc, hcm, hr', _⟩ := own_form h2
    rw [← List.map_append] at h2
    exact hK _ _ (h A' c' w' h2 hc hcm h4 h3)
end
/-- From one disk's blocks to those it has afterwards: what turned lay among the old ones, what came is new. -/
structure Stp (bs cs : List Nat) (w w' : World) : Prop where
  k : Keep bs w w'
  n : ∀ x ∈ cs, x ∈ bs ∨ w.heap.size ≤ x
theorem Stp.refl (bs : List Nat) (w : World) : Stp bs bs w w := ⟨Keep.refl _ _, fun _ h => .inl h⟩
theorem Stp.trans {bs cs ds : List Nat} {a b c : World} (h : Stp bs cs a b) (k : Stp cs ds b c) : Stp bs ds a c :=
  ⟨h.k.trans k.k h.n, fun x hx => by
    have := h.k.size
    rcases k.n x hx with h1 | h1
    · exact h.n x h1
    · exact .inr (by omega)⟩
theorem Stp.of_ext {bs : List Nat} {a b : World} (h : Ext a b) : Stp bs bs a b := ⟨Keep.of_ext h, fun _ h => .inl h⟩
theorem Stp.ext {bs cs : List Nat} {a b c : World} (h : Stp bs cs a b) (k : Ext b c) : Stp bs cs a c := h.trans (Stp.of_ext k)
theorem Stp.after {bs cs : List Nat} {a b c : World} (k : Ext a b) (h : Stp bs cs b c) : Stp bs cs a c := (Stp.of_ext k).trans h
theorem Stp.not {bs cs : List Nat} {a b : World} (h : Stp bs cs a b) {x : Nat} (hx : x < a.heap.size) (hn : x ∉ bs) : x ∉ cs := fun hm => by
  rcases h.n x hm with h1 | h1
  · exact hn h1
  · omega
end Go.Cv
namespace Go.Proofs.YtjnbbfhoegeppaaGreatDoor
open Go.RowKit Go.Cv Go.Cv.Dk
/-- A file and where it lies. -/
structure GF where
  f : PF
  k : Nat
  A : Option Addr
  c : Nat
def GF.nm (g : GF) : List UInt8 := g.f.nm
/-- How a pointer to a block's head reads. -/
def RF : Value → Option (DataW Unit × List MemPlace)
  | .pointer none => some (.nil, [])
  | .pointer (some ⟨k, 0, none⟩) => some (.lit (.int .i64 k), [])
  | _ => none
def pt (k : Nat) : Value := .pointer (some ⟨k, 0, none⟩)
theorem RF_pt (k : Nat) : RF (pt k) = some (.lit (.int .i64 k), []) := rfl
theorem RF_inv {v : Value} {ps : List MemPlace} {k : Nat} (h : RF v = some (.lit (.int .i64 k), ps)) : v = .pointer (some ⟨k, 0, none⟩) := by
  unfold RF at h
  split at h
  · simp at h
  · simp at h; obtain ⟨h, _⟩ := h; have h := Int.ofNat.inj h; subst h; rfl
  · cases h
theorem RF_nil {v : Value} {ps : List MemPlace} (h : RF v = some (.nil, ps)) : v = .pointer none := by
  unfold RF at h
  split at h
  · rfl
  · simp at h
  · cases h
theorem RF_form {v : Value} {y : DataW Unit × List MemPlace} (h : RF v = some y) : ∃ q : Option Nat, v = (match q with | none => .pointer none | some k => .pointer (some ⟨k, 0, none⟩)) := by
  unfold RF at h
  split at h
  · exact ⟨none, rfl⟩
  · exact ⟨some _, rfl⟩
  · cases h
def ents (L : List GF) : List (Lit × DataW Unit) := L.map fun g => (.string g.f.nm, .lit (.int .i64 g.k))
def MapAt (w : World) (mb : Nat) (L : List GF) : Prop := w.ownsMap (H := Unit) Tryz.prog 9 RF mb L.length (.map (ents L))
theorem ents_len (L : List GF) : (ents L).length = L.length := by simp [ents]
theorem MapAt.of {w : World} {mb n : Nat} {L : List GF} (h : w.ownsMap (H := Unit) Tryz.prog 9 RF mb n (.map (ents L))) : MapAt w mb L := by
  have := own_tight h
  rwa [ents_len] at this
theorem MapAt.keep {w w' : World} {mb : Nat} {L : List GF} {bs : List Nat} (h : MapAt w mb L) (hk : Keep bs w w') (hb : mb ∉ bs) : MapAt w' mb L := own_keepm h hk hb
theorem MapAt.lt {w : World} {mb : Nat} {L : List GF} (h : MapAt w mb L) : mb < w.heap.size := World.ownsMap.lt h
theorem MapAt.made (w : World) : MapAt (w.alloc (.map #[] 0)) w.heap.size [] := World.ownsMap_made _ _ _ _
theorem zeroPF (w : World) : (zeroValue 91).run Tryz.prog w = .ok (.pointer none) w := by kernel_rfl
abbrev strK : Maps.Keyed Tryz.prog 9 := Maps.string_keyed Tryz.underlying9
theorem atKey_none {L : List GF} {x : List UInt8} (h : ∀ g ∈ L, g.f.nm ≠ x) (z : DataW Unit) : (DataW.map (ents L)).atKey (.string x) z = z ∧ Maps.has (DataW.map (ents L)) (.string x) = false := by
  have e : ∀ p ∈ ents L, p.1.sameKey (.string x) = false := fun p hp => by
    obtain ⟨g, hg, rfl⟩ := List.mem_map.1 hp
    simpa [Lit.sameKey] using h g hg
  refine ⟨?_, ?_⟩
  · unfold DataW.atKey
    simp only []
    rw [List.find?_eq_none.2 (fun p hp => by rw [e p hp]; simp)]
  · show (ents L).any (fun p => p.1.sameKey (.string x)) = false
    rw [List.any_eq_false]
    exact fun p hp => by rw [e p hp]; simp
theorem atKey_some {l1 l2 : List GF} {g : GF} (h : ∀ z ∈ l1, z.f.nm ≠ g.f.nm) (z : DataW Unit) : (DataW.map (ents (l1 ++ g :: l2))).atKey (.string g.f.nm) z = .lit (.int .i64 g.k) ∧ Maps.has (DataW.map (ents (l1 ++ g :: l2))) (.string g.f.nm) = true := by
  refine ⟨?_, ?_⟩
  · unfold DataW.atKey
    have e : (ents (l1 ++ g :: l2)).find? (fun p => p.1.sameKey (.string g.f.nm)) = some (.string g.f.nm, .lit (.int .i64 g.k)) := by
      unfold ents
      rw [List.map_append, List.find?_append, List.find?_eq_none.2, Option.none_or, List.map_cons, List.find?_cons_of_pos]
      · simp [Lit.sameKey]
      · intro p hp
        obtain ⟨y, hy, rfl⟩ := List.mem_map.1 hp
        simpa [Lit.sameKey] using h y hy
    simp only [e]
  · show (ents (l1 ++ g :: l2)).any (fun p => p.1.sameKey (.string g.f.nm)) = true
    simp [ents, Lit.sameKey]
theorem MapAt.ris {w : World} {mb : Nat} {L : List GF} (h : MapAt w mb L) : Ris GF.nm L := by
  obtain ⟨es, clock, hb, F, hs, hD⟩ := h
  injection hD with hD
  have hr := Maps.fit_rising strK F
  have h2 : (ents L).Pairwise (fun p q => p.1.before q.1 = true) := by
    rw [hD]
    have h3 := ChangeMaps.sorted_sorted (es.toList.map (WideElems.rg Tryz.prog 9 RF)) (fun p hp => ?_) (Maps.fit_apart strK F)
    · exact h3
    · obtain ⟨x, hx, rfl⟩ := List.mem_map.1 hp
      obtain ⟨y, hy⟩ := F.reads x hx
      have hk := WideElems.rd_key hy
      rw [WideElems.rg_of hy]
      obtain ⟨x', _, e, _⟩ : ∃ x' : List UInt8, x.key = .string ⟨x'.toArray⟩ ∧ y.1 = .string x' ∧ x'.length ≤ maxLen := by
        generalize x.key = kk at hk
        cases kk <;> simp [keyOf, Tryz.underlying9, mapKey] at hk
        rename_i s
        obtain ⟨hs, hk⟩ := hk
        exact ⟨s.data.toList, by simp, hk.symm, by simpa using hs⟩
      exact ⟨x', e⟩
  exact (List.pairwise_map.1 h2).imp fun {a b} h => h
/-- 'm[x]'. -/
theorem MapAt.look {w : World} {mb : Nat} {L : List GF} (h : MapAt w mb L) {s : ByteArray} (hs : s.size ≤ maxLen) (hn : ∀ g ∈ L, g.f.nm ≠ s.data.toList) :
    (Instr.lookup 110 (.map (some mb)) (.string s) true).run Tryz.prog w = .ok (.tuple #[.pointer none, .bool false]) w ∧
    (Instr.lookup 110 (.map (some mb)) (.string s) false).run Tryz.prog w = .ok (.pointer none) w := by
  have hkey : keyOf Tryz.prog 9 (.string s) = some (.string s.data.toList) := WideMaps.keyOf_string_mk Tryz.underlying9 hs
  obtain ⟨e1, e2⟩ := atKey_none hn .nil
  constructor
  · obtain ⟨v, ps, hr, hv⟩ := World.ownsMap.look_ok h strK Tryz.underlying110 (zeroPF w) (zd := .nil) (zp := []) rfl hkey
    rw [e1] at hv
    rw [e2] at hr
    rw [hr, RF_nil hv]
  · obtain ⟨v, ps, hr, hv⟩ := World.ownsMap.lookup h strK Tryz.underlying110 (zeroPF w) (zd := .nil) (zp := []) rfl hkey
    rw [e1] at hv
    rw [hr, RF_nil hv]
theorem MapAt.look' {w : World} {mb : Nat} {l1 l2 : List GF} {g : GF} (h : MapAt w mb (l1 ++ g :: l2)) {s : ByteArray} (hs : s.size ≤ maxLen) (hn : ∀ z ∈ l1, z.f.nm ≠ g.f.nm) (hg : g.f.nm = s.data.toList) :
    (Instr.lookup 110 (.map (some mb)) (.string s) true).run Tryz.prog w = .ok (.tuple #[.pointer (some ⟨g.k, 0, none⟩), .bool true]) w ∧
    (Instr.lookup 110 (.map (some mb)) (.string s) false).run Tryz.prog w = .ok (.pointer (some ⟨g.k, 0, none⟩)) w := by
  have hkey : keyOf Tryz.prog 9 (.string s) = some (.string g.f.nm) := by rw [hg]; exact WideMaps.keyOf_string_mk Tryz.underlying9 hs
  obtain ⟨e1, e2⟩ := atKey_some (l2 := l2) hn .nil
  constructor
  · obtain ⟨v, ps, hr, hv⟩ := World.ownsMap.look_ok h strK Tryz.underlying110 (zeroPF w) (zd := .nil) (zp := []) rfl hkey
    rw [e1] at hv
    rw [e2] at hr
    rw [hr, RF_inv hv]
  · obtain ⟨v, ps, hr, hv⟩ := World.ownsMap.lookup h strK Tryz.underlying110 (zeroPF w) (zd := .nil) (zp := []) rfl hkey
    rw [e1] at hv
    rw [hr, RF_inv hv]
theorem ents_ins (g : GF) (L : List GF) : ents (ins GF.nm g L) = DataW.insert (.string g.f.nm, .lit (.int .i64 g.k)) (ents L) := by
  induction L with
  | nil => rfl
  | cons y r ih =>
    have e : DataW.insert (.string g.f.nm, .lit (.int .i64 g.k)) (ents (y :: r)) = (if bytesBefore g.f.nm y.f.nm then (.string g.f.nm, .lit (.int .i64 g.k)) :: ents (y :: r) else (.string y.f.nm, .lit (.int .i64 y.k)) :: DataW.insert (.string g.f.nm, .lit (.int .i64 g.k)) (ents r)) := rfl
    rw [e]
    show ents (if bytesBefore g.f.nm y.f.nm then g :: y :: r else y :: ins GF.nm g r) = _
    split
    · rfl
    · rw [← ih]; rfl
theorem ents_del (L : List GF) (x : List UInt8) : (ents L).filter (fun p => !p.1.sameKey (.string x)) = ents (L.filter fun g => !(g.f.nm == x)) := by
  unfold ents
  rw [List.filter_map]
  rfl
/-- 'm[x] = p'. -/
theorem MapAt.store {w : World} {mb : Nat} {L : List GF} (h : MapAt w mb L) {s : ByteArray} (hs : s.size ≤ maxLen) (hL : L.length < maxLen) (g : GF) (hg : g.f.nm = s.data.toList) :
    ∃ w', (Instr.mapUpdate 110 (.map (some mb)) (.string s) (.pointer (some ⟨g.k, 0, none⟩))).run Tryz.prog w = .ok () w' ∧ MapAt w' mb (ins GF.nm g (L.filter fun z => !(z.f.nm == g.f.nm))) ∧ Keep [mb] w w' := by
  have hkey : keyOf Tryz.prog 9 (.string s) = some (.string g.f.nm) := by rw [hg]; exact WideMaps.keyOf_string_mk Tryz.underlying9 hs
  obtain ⟨w', hr, ho, ht⟩ := World.ownsMap.store h strK Tryz.underlying110 hL hkey (RF_pt g.k)
  refine ⟨w', hr, MapAt.of (n := L.length + 1) ?_, Keep.grown ht.grown (by simp)⟩
  rw [ents_ins, ← ents_del]
  exact ho
/-- 'delete(m, x)'. -/
theorem MapAt.drop {w : World} {mb : Nat} {L : List GF} (h : MapAt w mb L) {s : ByteArray} (hs : s.size ≤ maxLen) (ty : TypeId) :
    ∃ w', (Builtin.delete_ #[110, 9] ty #[.map (some mb), .string s]).run Tryz.prog w = .ok (.tuple #[]) w' ∧ MapAt w' mb (L.filter fun z => !(z.f.nm == s.data.toList)) ∧ Keep [mb] w w' := by
  have hkey : keyOf Tryz.prog 9 (.string s) = some (.string s.data.toList) := WideMaps.keyOf_string_mk Tryz.underlying9 hs
  obtain ⟨w', hr, ho, ht⟩ := World.ownsMap.drop h strK Tryz.underlying110 hkey ty
  refine ⟨w', hr, MapAt.of (n := L.length) ?_, Keep.grown ht.grown (by simp)⟩
  rw [← ents_del]
  exact ho
def rowOf (A : Option Addr) : List Nat := match A with | some ad => [ad.block] | none => []
/-- What is read lies in none of these blocks. -/
def Ap (A : Option Addr) (b : List UInt8) (bs : List Nat) : Prop := b = [] ∨ ∀ x ∈ rowOf A, x ∉ bs
theorem Ap.keep {A : Option Addr} {b : List UInt8} {bs cs : List Nat} {w w' : World} (h : Ap A b bs) (hr : Rd w A (b.map bv)) (hk : Keep cs w w') (hc : ∀ x ∈ cs, x ∈ bs) : Rd w' A (b.map bv) := by
  rcases h with rfl | h
  · exact Rd.nil_
  · exact hr.keep hk fun ad e hm => h ad.block (by simp [rowOf, e]) (hc _ hm)
theorem Ap.of_lt {A : Option Addr} {b : List UInt8} {bs : List Nat} {w : World} (hr : Rd w A (b.map bv)) (h : ∀ x ∈ bs, w.heap.size ≤ x) : Ap A b bs := by
  rcases b with _ | ⟨x, r⟩
  · exact .inl rfl
  · obtain ⟨ad, rfl, hl⟩ := hr.some_ (by simp)
    refine .inr fun y hy hm => ?_
    simp [rowOf] at hy
    subst hy
    have := h _ hm
    omega
theorem Ap.step {A : Option Addr} {b : List UInt8} {bs cs : List Nat} {w w' : World} (h : Ap A b bs) (hr : Rd w A (b.map bv)) (hs : Stp bs cs w w') : Ap A b cs ∧ Rd w' A (b.map bv) := by
  refine ⟨?_, h.keep hr hs.k fun x hx => hx⟩
  rcases h with rfl | h
  · exact .inl rfl
  · rcases b with _ | ⟨x, r⟩
    · exact .inl rfl
    · obtain ⟨ad, rfl, hl⟩ := hr.some_ (by simp)
      refine .inr fun y hy => hs.not ?_ (h y hy)
      simp [rowOf] at hy
      subst hy
      exact hl
def ownB (g : GF) : List Nat := g.k :: rowOf g.A
/-- A file in memory. -/
structure FileAt (w : World) (B : Nat) (g : GF) : Prop where
  row : Row w g.k 96 [.slice g.A g.f.b.length g.c, .int .i64 g.f.sy]
  rd : Rd w g.A (g.f.b.map bv)
  nc : g.f.b.length ≤ g.c
  cm : g.c ≤ maxLen
  sy : g.f.sy ≤ g.f.b.length
  own : w.ownsRow B 5 1 (.slice g.A g.f.b.length g.c) g.f.b.length (g.f.b.map bv) ∨ g.c = g.f.b.length
  nil : g.A = none → g.f.b.length = 0 ∧ g.c = 0
  len : g.f.b.length ≤ 140737488355328
  ge : B ≤ g.k ∧ ∀ x ∈ rowOf g.A, B ≤ x ∧ x < w.heap.size
theorem FileAt.keep {w w' : World} {B : Nat} {g : GF} {bs : List Nat} (h : FileAt w B g) (hk : Keep bs w w') (hb : ∀ x ∈ ownB g, x ∉ bs) : FileAt w' B g := by
  have hr : ∀ ad, g.A = some ad → ad.block ∉ bs := fun ad e => hb _ (by simp [ownB, rowOf, e])
  refine ⟨h.row.keep hk (hb _ (by simp [ownB])), h.rd.keep hk hr, h.nc, h.cm, h.sy, ?_, h.nil, h.len, h.ge.1, fun x hx => ⟨(h.ge.2 x hx).1, Nat.lt_of_lt_of_le (h.ge.2 x hx).2 hk.size⟩⟩
  rcases h.own with ho | ho
  · refine .inl (own_keep ho hk fun k hk' => ?_)
    rcases hA : g.A with _ | ad
    · rw [hA] at hk'; cases hk'
    · rw [hA] at hk'
      simp only [Value.ownBlock, Option.some.injEq] at hk'
      subst hk'
      exact hr ad hA
  · exact .inr ho
theorem FileAt.lt {w : World} {B : Nat} {g : GF} (h : FileAt w B g) : ∀ x ∈ ownB g, x < w.heap.size := fun x hx => by
  rcases List.mem_cons.1 hx with rfl | hx
  · exact h.row.lt
  · exact (h.ge.2 x hx).2
def foot (d mb : Nat) (L : List GF) : List Nat := d :: mb :: L.flatMap ownB
/-- No two lie in one block. -/
structure Sep (d mb : Nat) (L : List GF) : Prop where
  dm : d ≠ mb
  each : ∀ g ∈ L, g.k ∉ rowOf g.A ∧ d ∉ ownB g ∧ mb ∉ ownB g
  two : L.Pairwise fun g h => ∀ x ∈ ownB g, x ∉ ownB h
structure DiskAt (w : World) (B d mb : Nat) (S : DS) (L : List GF) : Prop where
  row : Row w d 112 [.int .i64 S.room, .map (some mb), .bool S.off, .int .i64 S.bud, .int .i64 S.st]
  map : MapAt w mb L
  fl : ∀ g ∈ L, FileAt w B g
  sep : Sep d mb L
  ls : S.l = L.map GF.f
  ge : B ≤ d ∧ B ≤ mb
  ok : S.Ok
theorem DiskAt.lt {w : World} {B d mb : Nat} {S : DS} {L : List GF} (h : DiskAt w B d mb S L) : ∀ x ∈ foot d mb L, x < w.heap.size := fun x hx => by
  rcases List.mem_cons.1 hx with rfl | hx
  · exact h.row.lt
  · rcases List.mem_cons.1 hx with rfl | hx
    · exact h.map.lt
    · obtain ⟨g, hg, hx⟩ := List.mem_flatMap.1 hx
      exact (h.fl g hg).lt x hx
theorem DiskAt.base {w : World} {B d mb : Nat} {S : DS} {L : List GF} (h : DiskAt w B d mb S L) : ∀ x ∈ foot d mb L, B ≤ x := fun x hx => by
  rcases List.mem_cons.1 hx with rfl | hx
  · exact h.ge.1
  · rcases List.mem_cons.1 hx with rfl | hx
    · exact h.ge.2
    · obtain ⟨g, hg, hx⟩ := List.mem_flatMap.1 hx
      rcases List.mem_cons.1 hx with rfl | hx
      · exact (h.fl g hg).ge.1
      · exact ((h.fl g hg).ge.2 x hx).1
theorem DiskAt.keep {w w' : World} {B d mb : Nat} {S : DS} {L : List GF} {bs : List Nat} (h : DiskAt w B d mb S L) (hk : Keep bs w w') (hb : ∀ x ∈ foot d mb L, x ∉ bs) : DiskAt w' B d mb S L :=
  ⟨h.row.keep hk (hb d (by simp [foot])), h.map.keep hk (hb mb (by simp [foot])), fun g hg => (h.fl g hg).keep hk fun x hx => hb x (by simp only [foot, List.mem_cons, List.mem_flatMap]; exact .inr (.inr ⟨g, hg, hx⟩)), h.sep, h.ls, h.ge, h.ok⟩
theorem DiskAt.ext {w w' : World} {B d mb : Nat} {S : DS} {L : List GF} (h : DiskAt w B d mb S L) (hx : Ext w w') : DiskAt w' B d mb S L := h.keep (Keep.of_ext (bs := []) hx) (by simp)
/-- The disk at block d stands so; all its blocks are among bs. -/
def Dsk (w : World) (B d : Nat) (S : DS) (bs : List Nat) : Prop := ∃ mb L, DiskAt w B d mb S L ∧ bs = foot d mb L
theorem Dsk.lt {w : World} {B d : Nat} {S : DS} {bs : List Nat} (h : Dsk w B d S bs) : ∀ x ∈ bs, B ≤ x ∧ x < w.heap.size := by
  obtain ⟨mb, L, h, rfl⟩ := h
  exact fun x hx => ⟨h.base x hx, h.lt x hx⟩
theorem Dsk.keep {w w' : World} {B d : Nat} {S : DS} {bs cs : List Nat} (h : Dsk w B d S bs) (hk : Keep cs w w') (hb : ∀ x ∈ bs, x ∉ cs) : Dsk w' B d S bs := by
  obtain ⟨mb, L, h, rfl⟩ := h
  exact ⟨mb, L, h.keep hk hb, rfl⟩
theorem Dsk.ext {w w' : World} {B d : Nat} {S : DS} {bs : List Nat} (h : Dsk w B d S bs) (hx : Ext w w') : Dsk w' B d S bs := h.keep (Keep.of_ext (bs := []) hx) (by simp)
theorem Dsk.ok {w : World} {B d : Nat} {S : DS} {bs : List Nat} (h : Dsk w B d S bs) : S.Ok := by
  obtain ⟨mb, L, h, rfl⟩ := h
  exact h.ok
theorem Sep.swap {d mb : Nat} {l1 l2 : List GF} {g g' : GF} (h : Sep d mb (l1 ++ g :: l2)) (h1 : g'.k ∉ rowOf g'.A) (hn : ∀ x ∈ ownB g', x ∈ ownB g ∨ (x ≠ d ∧ x ≠ mb ∧ ∀ z ∈ l1 ++ l2, x ∉ ownB z)) : Sep d mb (l1 ++ g' :: l2) := by
  obtain ⟨t1, t2, t3⟩ := List.pairwise_append.1 h.two
  obtain ⟨t4, t5⟩ := List.pairwise_cons.1 t2
  have hd := (h.each g (by simp)).2
  refine ⟨h.dm, fun z hz => ?_, List.pairwise_append.2 ⟨t1, List.pairwise_cons.2 ⟨fun z hz x hx hx2 => ?_, t5⟩, fun y hy z hz x hx hx2 => ?_⟩⟩
  · rcases List.mem_append.1 hz with hz | hz
    · exact h.each z (by simp [hz])
    · rcases List.mem_cons.1 hz with rfl | hz
      · refine ⟨h1, fun hm => ?_, fun hm => ?_⟩
        · rcases hn _ hm with h2 | h2
          · exact hd.1 h2
          · exact h2.1 rfl
        · rcases hn _ hm with h2 | h2
          · exact hd.2 h2
          · exact h2.2.1 rfl
      · exact h.each z (by simp [hz])
  · rcases hn x hx with h2 | h2
    · exact t4 z hz x h2 hx2
    · exact h2.2.2 z (by simp [hz]) hx2
  · rcases List.mem_cons.1 hz with rfl | hz
    · rcases hn x hx2 with h2 | h2
      · exact t3 y hy g (by simp) x hx h2
      · exact h2.2.2 y (by simp [hy]) hx
    · exact t3 y hy z (by simp [hz]) x hx hx2
theorem Sep.add {d mb : Nat} {l1 l2 : List GF} {g : GF} (h : Sep d mb (l1 ++ l2)) (h1 : g.k ∉ rowOf g.A) (hn : ∀ x ∈ ownB g, x ≠ d ∧ x ≠ mb ∧ ∀ z ∈ l1 ++ l2, x ∉ ownB z) : Sep d mb (l1 ++ g :: l2) := by
  obtain ⟨t1, t2, t3⟩ := List.pairwise_append.1 h.two
  refine ⟨h.dm, fun z hz => ?_, List.pairwise_append.2 ⟨t1, List.pairwise_cons.2 ⟨fun z hz x hx hx2 => (hn x hx).2.2 z (by simp [hz]) hx2, t2⟩, fun y hy z hz x hx hx2 => ?_⟩⟩
  · rcases List.mem_append.1 hz with hz | hz
    · exact h.each z (by simp [hz])
    · rcases List.mem_cons.1 hz with rfl | hz
      · exact ⟨h1, fun hm => (hn _ hm).1 rfl, fun hm => (hn _ hm).2.1 rfl⟩
      · exact h.each z (by simp [hz])
  · rcases List.mem_cons.1 hz with rfl | hz
    · exact (hn x hx2).2.2 y (by simp [hy]) hx
    · exact t3 y hy z hz x hx hx2
theorem Sep.sub {d mb : Nat} {L l : List GF} (h : Sep d mb L) (hl : l.Sublist L) : Sep d mb l := ⟨h.dm, fun g hg => h.each g (hl.subset hg), h.two.sublist hl⟩
theorem Sep.of {d mb : Nat} {l1 l2 : List GF} {g : GF} (h : Sep d mb (l1 ++ g :: l2)) : d ≠ mb ∧ g.k ∉ rowOf g.A ∧ d ∉ ownB g ∧ mb ∉ ownB g ∧ ∀ z ∈ l1 ++ l2, ∀ x ∈ ownB g, x ∉ ownB z := by
  obtain ⟨t1, t2, t3⟩ := List.pairwise_append.1 h.two
  obtain ⟨t4, t5⟩ := List.pairwise_cons.1 t2
  obtain ⟨e1, e2, e3⟩ := h.each g (by simp)
  refine ⟨h.dm, e1, e2, e3, fun z hz x hx hx2 => ?_⟩
  rcases List.mem_append.1 hz with hz | hz
  · exact t3 z hz g (by simp) x hx2 hx
  · exact t4 z hz x hx hx2
end Go.Proofs.YtjnbbfhoegeppaaGreatDoor
end
section
/-
  Walks of the disk's smallest functions: names, steps, how much there is, where a file is.
-/
set_option linter.unusedSimpArgs false
set_option linter.unusedVariables false
namespace Go.Proofs.YtjnbbfhoegeppaaGreatDoor
open Go.RowKit Go.Cv Go.Cv.Dk
theorem codeinfo : (Tryz.prog.info? 48).map (·.comparable) = some true := by kernel_rfl
@[go_sem] theorem eql_err (a b : Int) (w : World) : (binOp .eql 38 (.iface 48 (.int .i64 a)) (.iface 48 (.int .i64 b))).run Tryz.prog w = .ok (.bool (a == b)) w :=
  run_eql_iface_int' w a b Tryz.underlying38 Tryz.underlying48 codeinfo
/-- An error by its number. -/
def errV (n : Nat) : Value := if n = 0 then .nilIface else .iface 48 (.int .i64 n)
theorem u8rowD : RowT Tryz.prog 43 5 1 := RowT.of (z := .int .u8 0) Tryz.underlying43 (by kernel_rfl) rfl
theorem str_empty (l : List UInt8) : ((.string ⟨l.toArray⟩ : Value) = .string ⟨#[]⟩) ↔ l = [] := by
  constructor
  · intro h
    injection h with h
    injection h with h
    simpa using congrArg Array.toList h
  · rintro rfl; rfl
set_option maxRecDepth 4000 in
set_option maxHeartbeats 400000 in
theorem named_any (s : ByteArray) (w : World) (hs : s.size ≤ 281474976710656) :
    Calls Tryz.prog 62 #[.string s] w fun e w' => e = .returned (.bool (nameOk s.data.toList)) ∧ Ext w w' := by
  have hl : s.data.toList.length = s.size := Array.length_toList
  by_cases h1 : 1 ≤ s.size
  · by_cases h2 : s.size ≤ 32
    · have hT : ∀ w, Calls Tryz.prog 81 #[.string s, .string ⟨#[97, 98, 99, 100, 101, 102, 103, 104, 105, 106, 107, 108, 109, 110, 111, 112, 113, 114, 115, 116, 117, 118, 119, 120, 121, 122, 48, 49, 50, 51, 52, 53, 54, 55, 56, 57, 46]⟩] w fun e w' => e = .returned (.string ⟨(Lib.trimS s.data.toList cutset).toArray⟩) ∧ Below w.heap.size w w' :=
        fun w => Tryz.strings_Trim s ⟨#[97, 98, 99, 100, 101, 102, 103, 104, 105, 106, 107, 108, 109, 110, 111, 112, 113, 114, 115, 116, 117, 118, 119, 120, 121, 122, 48, 49, 50, 51, 52, 53, 54, 55, 56, 57, 46]⟩ w (by omega) (by decide) (ascii_of_all (by decide))
      have hall := trim_nil s.data.toList
      have hX : Hid (nameOk s.data.toList = decide (Lib.trimS s.data.toList cutset = [])) := Lib.hid (by
        unfold nameOk
        rw [hl, decide_eq_true ⟨h1, h2⟩, Bool.true_and, Bool.eq_iff_iff, decide_eq_true_eq]
        exact hall.symm)
      clear hall hl
      generalize Lib.trimS s.data.toList cutset = t at *
      generalize nameOk s.data.toList = r at *
      go_enter Tryz.func62, Tryz.ntmps62
      go_wp2_with (go_at_call 81; with_reducible refine (hT _).mono ?_; rintro e w' ⟨rfl, hx⟩)
      go_ret
      refine ⟨?_, hx⟩
      rw [hX.out]
      cases t <;> rfl
    · have hX : Hid (nameOk s.data.toList = false) := Lib.hid (by
        unfold nameOk
        rw [hl, decide_eq_false (fun h => h2 h.2), Bool.false_and])
      have h2' : ¬ (s.size : Int) ≤ 32 := by omega
      clear hl
      generalize nameOk s.data.toList = r at *
      go_enter Tryz.func62, Tryz.ntmps62
      go_wp2
      go_ret
      exact ⟨by rw [hX.out]; rfl, Ext.refl _⟩
  · have hX : Hid (nameOk s.data.toList = false) := Lib.hid (by
      unfold nameOk
      rw [hl, decide_eq_false (fun h => h1 h.1), Bool.false_and])
    have h2' : ¬ (1 : Int) ≤ (s.size : Int) := by omega
    clear hl
    generalize nameOk s.data.toList = r at *
    go_enter Tryz.func62, Tryz.ntmps62
    go_wp2
    go_ret
    exact ⟨by rw [hX.out]; rfl, Ext.refl _⟩
/-- The disk's row. -/
def dcells (room : Int) (mb : Nat) (off : Bool) (bud st : Int) : List Value := [.int .i64 room, .map (some mb), .bool off, .int .i64 bud, .int .i64 st]
set_option maxHeartbeats 400000 in
theorem step_core (d mb : Nat) (room bud st : Int) (off : Bool) (w : World) (hr : Row w d 112 (dcells room mb off bud st)) (h0 : -1 ≤ bud) (hm : bud ≤ 9223372036854775807) (r : Bool) (G : World → Prop)
    (hrb : r = decide (bud ≠ 0))
    (h1 : ∀ w', Keep [d] w w' → Row w' d 112 (if bud = 0 then dcells room mb true bud st else dcells room mb off (if bud > 0 then bud - 1 else bud) (wrap64 (st + 1))) → G w') :
    Calls Tryz.prog 63 #[.pointer (some ⟨d, 0, none⟩)] w fun e w' => e = .returned (.bool r) ∧ G w' := by
  have c0 : w.cell? ⟨d, 2, none⟩ = some (.bool off) := hr.cell (i := 2) (Nat.le.step (Nat.le.step (Nat.le.refl)))
  have c3 : w.cell? ⟨d, 3, none⟩ = some (.int .i64 bud) := hr.cell (i := 3) (Nat.le.step (Nat.le.refl))
  have c4 : w.cell? ⟨d, 4, none⟩ = some (.int .i64 st) := hr.cell (i := 4) Nat.le.refl
  have f2 := hr.fro 2
  have f3 := hr.fro 3
  have f4 := hr.fro 4
  by_cases hb : bud = 0
  · subst hb
    have hrow := hr.set 2 (.bool true)
    have hG := h1 _ (Keep.setCell _ ⟨d, 2, none⟩ _) hrow
    rw [hrb]
    clear h1 hrow hrb
    go_enter Tryz.func63, Tryz.ntmps63
    go_wp2
    go_ret
    exact ⟨rfl, hG⟩
  · rw [if_neg hb] at h1
    have hrx : r = true := by rw [hrb]; exact decide_eq_true hb
    subst hrx
    clear hrb
    by_cases hp : bud > 0
    · rw [if_pos hp] at h1
      have hrow := ((hr.set 3 (.int .i64 (bud - 1))).set 4 (.int .i64 (wrap64 (st + 1))))
      have hG := h1 _ ((Keep.setCell _ ⟨d, 3, none⟩ _).same (Keep.setCell _ ⟨d, 4, none⟩ _)) hrow
      have hr2 := hr.set 3 (.int .i64 (bud - 1))
      have d4 : (w.setCell ⟨d, 3, none⟩ (.int .i64 (bud - 1))).cell? ⟨d, 4, none⟩ = some (.int .i64 st) := hr2.cell (i := 4) Nat.le.refl
      have g4 := hr2.fro 4
      clear h1 hrow hr2
      go_enter Tryz.func63, Tryz.ntmps63
      go_wp2
      go_ret
      exact ⟨rfl, hG⟩
    · rw [if_neg hp] at h1
      have hrow := (hr.set 4 (.int .i64 (wrap64 (st + 1))))
      have hG := h1 _ (Keep.setCell _ ⟨d, 4, none⟩ _) hrow
      clear h1 hrow
      go_enter Tryz.func63, Tryz.ntmps63
      go_wp2
      go_ret
      exact ⟨rfl, hG⟩
/-- The disk's row turns, and nothing else. -/
theorem DiskAt.turn {w w' : World} {B d mb : Nat} {S S' : DS} {L : List GF} (h : DiskAt w B d mb S L) (hk : Keep [d] w w') (hr : Row w' d 112 (dcells S'.room mb S'.off S'.bud S'.st)) (hl : S'.l = S.l) (hok : S'.Ok) : DiskAt w' B d mb S' L :=
  ⟨hr, h.map.keep hk (by simpa using fun e => h.sep.dm e.symm), fun g hg => (h.fl g hg).keep hk fun x hx hm => by
    rw [List.mem_singleton.1 hm] at hx
    exact (h.sep.each g hg).2.1 hx, h.sep, by rw [hl]; exact h.ls, h.ge, hok⟩
theorem step_any (B d mb : Nat) (S : DS) (L : List GF) (w : World) (h : DiskAt w B d mb S L) :
    Calls Tryz.prog 63 #[.pointer (some ⟨d, 0, none⟩)] w fun e w' => e = .returned (.bool (stepd S wrap64).1) ∧ DiskAt w' B d mb (stepd S wrap64).2 L ∧ Keep [d] w w' := by
  refine step_core d mb S.room S.bud S.st S.off w h.row h.ok.b0 h.ok.b1 _ _ ?_ fun w' hk hr => ⟨h.turn hk ?_ (stepd_l S wrap64).1 (stepd_ok h.ok wrap64), hk⟩
  · unfold stepd
    by_cases hb : S.bud = 0 <;> simp [hb]
  · unfold stepd
    by_cases hb : S.bud = 0
    · rw [if_pos hb] at hr ⊢; exact hr
    · rw [if_neg hb] at hr ⊢; exact hr
end Go.Proofs.YtjnbbfhoegeppaaGreatDoor
end
section
/-
  Walks of the disk: how much there is, where a file is, a new disk, copies of bytes.
-/
set_option linter.unusedSimpArgs false
set_option linter.unusedVariables false
namespace Go.Proofs.YtjnbbfhoegeppaaGreatDoor
open Go.RowKit Go.Cv Go.Cv.Dk
/-- What is to be shown of a call's end, kept out of the walk. -/
theorem calls_hid {f : FuncId} {args : Array Value} {w : World} {R : Ending → World → Prop} (h : ∀ G : Ending → World → Prop, Hid (∀ e w', R e w' → G e w') → Calls Tryz.prog f args w G) : Calls Tryz.prog f args w R := h R (Lib.hid fun _ _ x => x)
section
variable {w : World} {ops : Array Oper} {rest : List Oper} {o : Oper} {a : Act} {Q : Exit → Act → World → Prop}
/-- A step of a range over the map of files. -/
theorem wpList_next_files (hg : o.guard = none) (it : Operand) (hop : o.op = Op.next it false) (mb r n : Nat) (L : List GF) (left : Lit → Bool) (cnt : Nat)
    (hit : a.eval it = .pointer (some ⟨r, 0, none⟩)) (h : w.ranges Tryz.prog 9 RF mb r n (.map (ents L)) left cnt)
    (hDone : (∀ g ∈ L, left (.string g.f.nm) = false) → wpList Tryz.prog ops Q rest (a.put o.dst (.tuple #[.bool false])) w)
    (hMore : ∀ (l1 l2 : List GF) (g : GF) (s : ByteArray) (w' : World) (cnt' : Nat), Hid (L = l1 ++ g :: l2) → Hid (g.f.nm = s.data.toList) → Hid (left (.string g.f.nm) = true) → w'.ranges Tryz.prog 9 RF mb r n (.map (ents L)) (fun z => left z && !z.sameKey (.string g.f.nm)) cnt' → cnt' < cnt → Keep [r] w w' →
      (Instr.entry (.pointer (some ⟨r, 0, none⟩))).run Tryz.prog w' = .ok (.tuple #[.string s, .pointer (some ⟨g.k, 0, none⟩)]) w' → wpList Tryz.prog ops Q rest (a.put o.dst (.tuple #[.bool true, .string s, .pointer (some ⟨g.k, 0, none⟩)])) w') :
    wpList Tryz.prog ops Q (o :: rest) a w := by
  refine wpList_next_ranges w hg it hop 9 strK RF (fun l : List UInt8 => .string ⟨l.toArray⟩) (fun v : Value => v) (fun key kl hk => ?_) (fun v y hv => ⟨v, rfl⟩) mb r n _ left cnt hit h (fun _ hl => hDone fun g _ => hl _) ?_
  · cases key <;> simp [keyOf, Tryz.underlying9, mapKey] at hk
    rename_i s
    exact ⟨s.data.toList, by simp⟩
  · intro x v kl y w' cnt' hkey hl hv hat hrg hlt hgr hsz hen
    have hkl : kl = .string x := by
      simp [keyOf, Tryz.underlying9, mapKey] at hkey
      exact hkey.2.symm
    subst hkl
    rcases hf : L.find? (fun g => g.f.nm == x) with _ | g
    · exfalso
      have hn : ∀ g ∈ L, g.f.nm ≠ x := fun g hg e => by
        have := List.find?_eq_none.1 hf g hg
        simp [e] at this
      have h1 := (atKey_none hn (.lit (.bool true))).1.symm.trans (hat _)
      have h2 := (atKey_none hn (.lit (.bool false))).1.symm.trans (hat _)
      rw [← h2] at h1
      simp at h1
    · obtain ⟨l1, l2, rfl, hn, rfl⟩ := ris_split hf
      have h1 := (atKey_some (l2 := l2) hn .nil).1.symm.trans (hat _)
      obtain ⟨y1, y2⟩ := y
      simp only at h1
      subst h1
      obtain rfl := RF_inv hv
      exact hMore l1 l2 g ⟨g.f.nm.toArray⟩ w' cnt' (Lib.hid rfl) (Lib.hid (by simp)) (Lib.hid hl) hrg hlt (Keep.grown hgr (by simp)) hen
end
/-- The bytes of the files still to come. -/
def restOf (L : List GF) (left : Lit → Bool) : Nat := ((L.filter fun g => left (.string g.f.nm)).map fun g => g.f.b.length).sum
theorem rest_none {L : List GF} {left : Lit → Bool} (h : ∀ g ∈ L, left (.string g.f.nm) = false) : restOf L left = 0 := by
  unfold restOf
  rw [List.filter_eq_nil_iff.2 (fun g hg => by rw [h g hg]; simp)]
  rfl
theorem rest_all {L : List GF} {left : Lit → Bool} (h : ∀ g ∈ L, left (.string g.f.nm) = true) : restOf L left = used (L.map GF.f) := by
  unfold restOf used
  rw [filter_all_ h, List.map_map]
  rfl
theorem rest_step {l1 l2 : List GF} {g : GF} {left : Lit → Bool} (h1 : ∀ z ∈ l1, z.f.nm ≠ g.f.nm) (h2 : ∀ z ∈ l2, z.f.nm ≠ g.f.nm) (hl : left (.string g.f.nm) = true) :
    restOf (l1 ++ g :: l2) left = g.f.b.length + restOf (l1 ++ g :: l2) (fun z => left z && !z.sameKey (.string g.f.nm)) := by
  have e : ∀ l : List GF, (∀ z ∈ l, z.f.nm ≠ g.f.nm) → (l.filter fun z => left (.string z.f.nm) && !(Lit.string z.f.nm).sameKey (.string g.f.nm)) = l.filter fun z => left (.string z.f.nm) := fun l hl => List.filter_congr fun z hz => by
    have : (Lit.string z.f.nm).sameKey (.string g.f.nm) = false := by simpa [Lit.sameKey] using hl z hz
    rw [this]; simp
  unfold restOf
  rw [List.filter_append, List.filter_append, List.filter_cons_of_pos (by simpa using hl), List.filter_cons_of_neg (by simp [Lit.sameKey]), e l1 h1, e l2 h2]
  simp only [List.map_append, List.map_cons, List.sum_append, List.sum_cons]
  omega
theorem has_all {L : List GF} : ∀ g ∈ L, Maps.has (.map (ents L)) (.string g.f.nm) = true := fun g hg => by
  show (ents L).any (fun p => p.1.sameKey (.string g.f.nm)) = true
  exact List.any_eq_true.2 ⟨_, List.mem_map.2 ⟨g, hg, rfl⟩, by simp [Lit.sameKey]⟩
theorem ext_grown {w w' : World} (h : w.grownBy w' none) : Ext w w' := ⟨h.os, h.tape, h.output, h.size, fun k hk => h.block k hk (by simp)⟩
theorem ext_keep {w a b : World} {bs : List Nat} (h : Ext w a) (k : Keep bs a b) (hb : ∀ x ∈ bs, w.heap.size ≤ x) : Ext w b :=
  ⟨k.os.trans h.os, k.tape.trans h.tape, k.output.trans h.output, Nat.le_trans h.size k.size, fun x hx => by
    have hs := h.size
    rw [k.keep x (by omega) (fun hm => by have := hb x hm; omega)]
    exact h.block x hx⟩
set_option maxHeartbeats 800000 in
theorem used_any (B d mb : Nat) (S : DS) (L : List GF) (w : World) (h : DiskAt w B d mb S L) :
    Calls Tryz.prog 28 #[.pointer (some ⟨d, 0, none⟩)] w fun e w' => e = .returned (.int .i64 (used S.l)) ∧ Ext w w' := by
  have c1 : w.cell? ⟨d, 1, none⟩ = some (.map (some mb)) := h.row.cell (i := 1) (by simp)
  have hown := h.map
  have hfl := h.fl
  have hris := h.map.ris
  have hu := h.ok.u
  have hr1 := h.ok.r1
  have hlt := h.row.lt
  obtain ⟨u, hU⟩ : ∃ u, u = used S.l := ⟨_, rfl⟩
  have hUL : Hid (u = used (L.map GF.f)) := Lib.hid (by rw [hU, h.ls])
  rw [← hU] at hu ⊢
  have hub : (u : Int) ≤ 9223372036854775807 := by omega
  clear hU h hu hr1
  unfold MapAt at hown
  go_enter Tryz.func28, Tryz.ntmps28
  go_wp2_with (at_range; refine wpList_range_own _ rfl _ 110 rfl 9 91 strK Tryz.underlying110 RF mb L.length (.map (ents L)) rfl hown ?_; intro w0 hrg0 hg0 hs0)
  go_frame
  go_loopw [3] (fun t wr => ∃ (left : Lit → Bool) (cnt m : Nat), wr.ranges Tryz.prog 9 RF mb w.heap.size L.length (.map (ents L)) left cnt ∧ t = .int .i64 m ∧ Hid (m + restOf L left = u) ∧ Ext w wr) (fun _ wr => wr.rangeLeft mb w.heap.size)
  case atStart => exact ⟨_, _, 0, hrg0, rfl, Lib.hid (by rw [rest_all has_all, hUL.out]; omega), ext_grown hg0⟩
  case round =>
    obtain ⟨left, cnt, m, hrg, rfl, hsum, hE⟩ := hrel
    go_wp2_with (at_next; refine wpList_next_files rfl _ rfl mb w.heap.size L.length L left cnt rfl hrg ?_ ?_)
    · intro hdone
      have hm : Hid (m = u) := Lib.hid (by rw [← hsum.out, rest_none hdone]; rfl)
      go_wp2
      go_ret
      exact ⟨by rw [hm.out]; rfl, hE⟩
    · intro l1 l2 g s w' cnt' hL hnm hl hrg' hlt' hk hen
      have hgm : g ∈ L := by rw [hL.out]; simp
      have hE' : Ext w w' := ext_keep hE hk (by simp)
      have hF := (hfl g hgm).keep (Keep.of_ext (bs := []) hE') (by simp)
      have e0 : w'.cell? ⟨g.k, 0, none⟩ = some (.slice g.A g.f.b.length g.c) := hF.row.cell (i := 0) (by simp)
      have hs2 : Hid (m + g.f.b.length + restOf L (fun z => left z && !z.sameKey (.string g.f.nm)) = u) := Lib.hid (by
        have h3 := hsum.out
        have h4 := hris
        rw [hL.out] at h4 h3 ⊢
        rw [rest_step (ris_after h4).1 (ris_after h4).2 hl.out] at h3
        omega)
      have hb := hs2.out
      have hb2 : m + g.f.b.length ≤ 9223372036854775807 := by omega
      clear hb hF hL hnm hl
      generalize g.f.b.length = q at *
      go_wp2
      go_round
      case rel => exact ⟨_, cnt', m + q, hrg', by go_num, hs2, hE'⟩
      case measure => rw [hrg'.left_eq, hrg.left_eq]; omega
/-- Where a file stands. -/
theorem DiskAt.inone {w : World} {B d mb : Nat} {S : DS} {L : List GF} (h : DiskAt w B d mb S L) {x : List UInt8} (hg : get S.l x = none) : ∀ g ∈ L, g.f.nm ≠ x := fun g hg' => get_none hg g.f (by rw [h.ls]; exact List.mem_map.2 ⟨g, hg', rfl⟩)
theorem DiskAt.isome {w : World} {B d mb : Nat} {S : DS} {L : List GF} (h : DiskAt w B d mb S L) {x : List UInt8} {f : PF} (hg : get S.l x = some f) :
    ∃ l1 l2 g, L = l1 ++ g :: l2 ∧ g.f = f ∧ g.f.nm = x ∧ (∀ z ∈ l1, z.f.nm ≠ x) ∧ (∀ z ∈ l2, z.f.nm ≠ x) := by
  have h1 : (L.find? fun g => GF.nm g == x) = L.find? ((fun f : PF => f.nm == x) ∘ GF.f) := rfl
  unfold Dk.get at hg
  rw [h.ls, List.find?_map] at hg
  rcases hq : L.find? ((fun f : PF => f.nm == x) ∘ GF.f) with _ | g
  · rw [hq] at hg; cases hg
  · rw [hq] at hg
    cases hg
    obtain ⟨l1, l2, rfl, h2, rfl⟩ := ris_split (key := GF.nm) (h1.trans hq)
    exact ⟨l1, l2, g, rfl, rfl, rfl, h2, (ris_after h.map.ris).2⟩
set_option maxHeartbeats 800000 in
theorem find_off (B d mb : Nat) (S : DS) (L : List GF) (s : ByteArray) (w : World) (h : DiskAt w B d mb S L) (ho : S.off = true) :
    Calls Tryz.prog 49 #[.pointer (some ⟨d, 0, none⟩), .string s] w fun e w' => e = .returned (.tuple #[.pointer none, .iface 48 (.int .i64 11)]) ∧ w = w' := by
  have c2 : w.cell? ⟨d, 2, none⟩ = Option.some (.bool S.off) := h.row.cell (i := 2) (by simp)
  rw [ho] at c2
  clear h ho
  go_enter Tryz.func49, Tryz.ntmps49
  go_wp2
  go_ret2
  exact ⟨rfl, rfl⟩
set_option maxHeartbeats 800000 in
theorem find_none (B d mb : Nat) (S : DS) (L : List GF) (s : ByteArray) (w : World) (h : DiskAt w B d mb S L) (hs : s.size ≤ 281474976710656) (ho : S.off = false) (hg : get S.l s.data.toList = none) :
    Calls Tryz.prog 49 #[.pointer (some ⟨d, 0, none⟩), .string s] w fun e w' => e = .returned (.tuple #[.pointer none, .iface 48 (.int .i64 9)]) ∧ w = w' := by
  have c1 : w.cell? ⟨d, 1, none⟩ = Option.some (.map (Option.some mb)) := h.row.cell (i := 1) (by simp)
  have c2 : w.cell? ⟨d, 2, none⟩ = Option.some (.bool S.off) := h.row.cell (i := 2) (by simp)
  rw [ho] at c2
  have hk := (h.map.look (by unfold maxLen; omega) (h.inone hg)).1
  clear h ho hg
  go_enter Tryz.func49, Tryz.ntmps49
  go_wp2
  go_ret2
  exact ⟨rfl, rfl⟩
set_option maxHeartbeats 800000 in
theorem find_ok (B d mb : Nat) (S : DS) (l1 l2 : List GF) (g : GF) (s : ByteArray) (w : World) (h : DiskAt w B d mb S (l1 ++ g :: l2)) (hs : s.size ≤ 281474976710656) (ho : S.off = false) (hn : ∀ z ∈ l1, z.f.nm ≠ s.data.toList) (hg : g.f.nm = s.data.toList) :
    Calls Tryz.prog 49 #[.pointer (some ⟨d, 0, none⟩), .string s] w fun e w' => e = .returned (.tuple #[.pointer (Option.some ⟨g.k, 0, Option.none⟩), .nilIface]) ∧ w = w' := by
  have c1 : w.cell? ⟨d, 1, none⟩ = Option.some (.map (Option.some mb)) := h.row.cell (i := 1) (by simp)
  have c2 : w.cell? ⟨d, 2, none⟩ = Option.some (.bool S.off) := h.row.cell (i := 2) (by simp)
  rw [ho] at c2
  have hk := (h.map.look' (by unfold maxLen; omega) (by rw [hg]; exact hn) hg).1
  clear h ho hg hn
  go_enter Tryz.func49, Tryz.ntmps49
  go_wp2
  go_ret2
  exact ⟨rfl, rfl⟩
@[go_sem] theorem eql_nil_bytes (A : Option Addr) (n c : Nat) (w : World) : (binOp .eql 43 (.slice A n c) (.slice none 0 0)).run Tryz.prog w = .ok (.bool A.isNone) w :=
  Lib.run_eql_slice_nil w _ _ A n c 0 0 Tryz.underlying43
/-- Bytes copied into a row of one's own. -/
def RetB (w : World) (n : Nat) (l : List UInt8) (v : Value) (w' : World) : Prop :=
  ∃ A c, v = .slice A n c ∧ Ext w w' ∧ w'.ownsRow w.heap.size 5 1 (.slice A n c) n (l.map bv) ∧ n ≤ c ∧ c ≤ maxLen ∧ Rd w' A (l.map bv)
set_option maxRecDepth 10000 in
set_option maxHeartbeats 800000 in
theorem clone_any (A : Option Addr) (n c : Nat) (l : List UInt8) (w : World) (hl : l.length = n) (hr : Rd w A (l.map bv)) (hA : A = none → n = 0 ∧ c = 0) (hb : n ≤ 140737488355328) :
    Calls Tryz.prog 50 #[.slice A n c] w fun e w' => ∃ v, e = .returned v ∧ RetB w n l v w' := by
  rcases A with _ | ad
  · obtain ⟨rfl, rfl⟩ := hA rfl
    obtain rfl : l = [] := List.length_eq_zero_iff.1 hl
    clear hr hl hA
    go_enter Tryz.func50, Tryz.ntmps50
    go_wp2
    go_ret
    exact ⟨_, rfl, none, 0, rfl, Ext.refl _, World.ownsRow_nil _ _ _ 1, Nat.le_refl _, by unfold maxLen; omega, Rd.nil_⟩
  · clear hA
    go_enter Tryz.func50, Tryz.ntmps50
    go_wp2_with (at_builtin; refine wpList_appb rfl (.tmp 5) (.tmp 6) 43 5 rfl u8rowD w.heap.size _ 0 [] rfl ⟨rfl, .inr ⟨w.heap.size, 0, #[], rfl, Nat.le_refl _, heap_alloc_new w _, Nat.le_refl _, by unfold maxLen; omega, rfl, rfl⟩⟩ (some ad) n c l rfl hl (hr.ext (ext_alloc _ _)) (by omega) (by simp) ?_; intro A' c' w' ho hc hm hr' hx)
    simp only [Nat.zero_add, List.nil_append] at ho hc hr' ⊢
    go_ret
    exact ⟨_, rfl, A', c', rfl, hx w (ext_alloc _ _) (Nat.le_refl _), ho, hc, hm, hr'⟩
/-- What a refusal of New's leaves; what it makes. -/
def newD (room : Int) : DS := ⟨room, [], false, -1, 0⟩
set_option maxHeartbeats 800000 in
theorem new_any (room : Int) (w : World) (h0 : 0 ≤ room) (h1 : room ≤ 9223372036854775807) :
    Calls Tryz.prog 26 #[.int .i64 room] w fun e w' => e = .returned (.tuple #[.pointer (some ⟨w.heap.size + 1, 0, none⟩), .nilIface]) ∧ DiskAt w' w.heap.size (w.heap.size + 1) w.heap.size (newD room) [] ∧ Ext w w' := by
  have hm := @run_makeMap Tryz.prog
  go_enter Tryz.func26, Tryz.ntmps26
  go_wp2
  go_ret2
  refine ⟨rfl, ⟨?_, ?_, by simp, ⟨by simp, by simp, List.Pairwise.nil⟩, rfl, ⟨by simp, Nat.le_refl _⟩, ⟨h0, h1, by simp [newD], by simp [newD], by simpa [newD, used] using h0, by simp [newD], by simp [newD], by simp [newD, Ris]⟩⟩, (ext_alloc _ _).trans (ext_alloc _ _)⟩
  · have := Row.alloc (w.alloc (.map #[] 0)) (dcells room w.heap.size false (-1) 0) 112
    have e : (w.alloc (.map #[] 0)).heap.size = w.heap.size + 1 := by simp
    rw [e] at this
    exact this
  · exact (MapAt.made w).keep (Keep.of_ext (bs := []) (ext_alloc _ _)) (by simp)
set_option maxHeartbeats 800000 in
theorem new_neg (room : Int) (w : World) (h0 : room < 0) :
    Calls Tryz.prog 26 #[.int .i64 room] w fun e w' => e = .returned (.tuple #[.pointer none, .iface 48 (.int .i64 1)]) ∧ w = w' := by
  go_enter Tryz.func26, Tryz.ntmps26
  go_wp2
  go_ret2
  exact ⟨rfl, rfl⟩
set_option maxHeartbeats 800000 in
theorem cut_any (B d mb : Nat) (n : Int) (S : DS) (L : List GF) (w : World) (h : DiskAt w B d mb S L) (hn : n ≤ 9223372036854775807) :
    Calls Tryz.prog 31 #[.pointer (some ⟨d, 0, none⟩), .int .i64 n] w fun e w' => e = .returned (errV (cutd S n).1) ∧ DiskAt w' B d mb (cutd S n).2 L ∧ Keep [d] w w' := by
  refine calls_hid fun G hG => ?_
  have c2 : w.cell? ⟨d, 2, none⟩ = Option.some (.bool S.off) := h.row.cell (i := 2) (by simp)
  have c3 : w.cell? ⟨d, 3, none⟩ = Option.some (.int .i64 S.bud) := h.row.cell (i := 3) (by simp)
  have f3 := h.row.fro 3
  by_cases h0 : n < 0
  · have hg : G (.returned (errV 1)) w := hG.out _ _ (by rw [show cutd S n = (1, S) from if_pos h0]; exact ⟨rfl, h, Keep.refl _ _⟩)
    clear h hG
    go_enter Tryz.func31, Tryz.ntmps31
    go_wp2
    exact hg
  · cases ho : S.off
    · have hk := Keep.setCell w ⟨d, 3, none⟩ (.int .i64 n)
      have hg : G (.returned (errV 0)) (w.setCell ⟨d, 3, none⟩ (.int .i64 n)) := hG.out _ _ (by
        have e : cutd S n = (0, { S with bud := n }) := by unfold cutd; rw [if_neg h0, ho]; rfl
        rw [e]
        exact ⟨rfl, h.turn hk (h.row.set 3 _) rfl ⟨h.ok.r0, h.ok.r1, by show -1 ≤ n; omega, hn, h.ok.u, h.ok.nm, h.ok.sy, h.ok.ris⟩, hk⟩)
      rw [ho] at c2
      clear h hG ho hk
      go_enter Tryz.func31, Tryz.ntmps31
      go_wp2
      exact hg
    · have hg : G (.returned (errV 0)) w := hG.out _ _ (by
        have e : cutd S n = (0, S) := by unfold cutd; rw [if_neg h0, ho]; rfl
        rw [e]
        exact ⟨rfl, h, Keep.refl _ _⟩)
      rw [ho] at c2
      clear h hG ho
      go_enter Tryz.func31, Tryz.ntmps31
      go_wp2
      exact hg
set_option maxHeartbeats 800000 in
theorem read_bad (B d mb : Nat) (S : DS) (L : List GF) (s : ByteArray) (w : World) (h : DiskAt w B d mb S L) (hs : s.size ≤ 281474976710656) (hf : fnd S s.data.toList ≠ 0) :
    Calls Tryz.prog 18 #[.pointer (some ⟨d, 0, none⟩), .string s] w fun e w' => e = .returned (.tuple #[.slice none 0 0, errV (fnd S s.data.toList)]) ∧ w = w' := by
  cases ho : S.off
  · rcases hq : Dk.get S.l s.data.toList with _ | f
    · have hF := fun w h => find_none B d mb S L s w h hs ho hq
      have e : fnd S s.data.toList = 9 := by unfold fnd has; rw [ho, hq]; rfl
      rw [e]
      clear hf e
      have hF := hF w h
      clear h ho hq
      go_enter Tryz.func18, Tryz.ntmps18
      go_wp2_with (go_at_call 49; with_reducible refine hF.mono ?_; rintro e w' ⟨rfl, rfl⟩)
      go_ret2
      exact ⟨rfl, rfl⟩
    · exfalso; exact hf (by unfold fnd has; rw [ho, hq]; rfl)
  · have hF := find_off B d mb S L s w h ho
    have e : fnd S s.data.toList = 11 := by unfold fnd; rw [ho]; rfl
    rw [e]
    clear hf e h ho
    go_enter Tryz.func18, Tryz.ntmps18
    go_wp2_with (go_at_call 49; with_reducible refine hF.mono ?_; rintro e w' ⟨rfl, rfl⟩)
    go_ret2
    exact ⟨rfl, rfl⟩
theorem fnd_ok {S : DS} {x : List UInt8} (h : fnd S x = 0) : S.off = false ∧ ∃ f, Dk.get S.l x = some f := by
  unfold fnd has at h
  cases ho : S.off
  · rcases hq : Dk.get S.l x with _ | f
    · rw [ho, hq] at h; cases h
    · exact ⟨rfl, f, rfl⟩
  · rw [ho] at h; cases h
set_option maxHeartbeats 800000 in
theorem read_ok (B d mb : Nat) (S : DS) (L : List GF) (s : ByteArray) (w : World) (h : DiskAt w B d mb S L) (hs : s.size ≤ 281474976710656) (hf : fnd S s.data.toList = 0) (hb : (cont S s.data.toList).length ≤ 140737488355328) :
    Calls Tryz.prog 18 #[.pointer (some ⟨d, 0, none⟩), .string s] w fun e w' => ∃ v, e = .returned (.tuple #[v, .nilIface]) ∧ RetB w (cont S s.data.toList).length (cont S s.data.toList) v w' := by
  obtain ⟨ho, f, hq⟩ := fnd_ok hf
  obtain ⟨l1, l2, g, rfl, rfl, hnm, h1, h2⟩ := h.isome hq
  have e : cont S s.data.toList = g.f.b := by unfold cont; rw [hq]
  rw [e] at hb ⊢
  have hF := find_ok B d mb S l1 l2 g s w h hs ho h1 hnm
  have hG := h.fl g (by simp)
  have c0 : w.cell? ⟨g.k, 0, none⟩ = some (.slice g.A g.f.b.length g.c) := hG.row.cell (i := 0) (by simp)
  have hC := clone_any g.A g.f.b.length g.c g.f.b w rfl hG.rd hG.nil hb
  generalize g.f.b.length = q at *
  clear h hG e
  go_enter Tryz.func18, Tryz.ntmps18
  go_wp2_with (first
    | (go_at_call 49; with_reducible refine hF.mono ?_; rintro e w' ⟨rfl, rfl⟩)
    | (go_at_call 50; with_reducible refine hC.mono ?_; rintro e w2 ⟨v, rfl, hv⟩))
  go_ret2
  exact ⟨v, rfl, hv⟩
end Go.Proofs.YtjnbbfhoegeppaaGreatDoor
end
section
/-
  Walks of the disk: sync and append.
-/
set_option linter.unusedSimpArgs false
set_option linter.unusedVariables false
namespace Go.Cv
open Go.RowKit
theorem run_append_zero {P : Program} (w : World) (t ty e : TypeId) (i : TypeInfo) (ht : P.underlying t = some (.slice e)) (hi : P.info? e = some i)
    (hsize : i.size = 1) (ad : Addr) (n c : Nat) (hnc : n ≤ c) (hcm : c ≤ maxLen) (B : Option Addr) (d : Nat) :
    (Builtin.append_ #[t, t] ty #[.slice (some ad) n c, .slice B 0 d]).run P w = .ok (.slice (some ad) n c) w := by
  simp [Builtin.append_, run_underlying ht, sizeOf, typeInfo, hi, Builtin.lenOf, Builtin.firstCells, hnc, storeCells, hsize]
  cases B <;> simp [loadCells, loadCellsFrom, storeCells, hnc]
end Go.Cv
namespace Go.Proofs.YtjnbbfhoegeppaaGreatDoor
open Go.RowKit Go.Cv Go.Cv.Dk
/-- Bytes in a slice that a file holds. -/
structure FS (w : World) (B : Nat) (A : Option Addr) (c : Nat) (b : List UInt8) : Prop where
  rd : Rd w A (b.map bv)
  nc : b.length ≤ c
  cm : c ≤ maxLen
  own : w.ownsRow B 5 1 (.slice A b.length c) b.length (b.map bv) ∨ c = b.length
  nil : A = none → b.length = 0 ∧ c = 0
  ge : ∀ x ∈ rowOf A, B ≤ x ∧ x < w.heap.size
theorem FileAt.fs {w : World} {B : Nat} {g : GF} (h : FileAt w B g) : FS w B g.A g.c g.f.b := ⟨h.rd, h.nc, h.cm, h.own, h.nil, h.ge.2⟩
theorem FS.file {w : World} {B : Nat} {g : GF} (h : FS w B g.A g.c g.f.b) (hr : Row w g.k 96 [.slice g.A g.f.b.length g.c, .int .i64 g.f.sy]) (hs : g.f.sy ≤ g.f.b.length) (hB : B ≤ g.k) (hlen : g.f.b.length ≤ 140737488355328) : FileAt w B g :=
  ⟨hr, h.rd, h.nc, h.cm, hs, h.own, h.nil, hlen, hB, h.ge⟩
theorem FS.keep {w w' : World} {B : Nat} {A : Option Addr} {c : Nat} {b : List UInt8} {bs : List Nat} (h : FS w B A c b) (hk : Keep bs w w') (hb : ∀ x ∈ rowOf A, x ∉ bs) : FS w' B A c b := by
  have hr : ∀ ad, A = some ad → ad.block ∉ bs := fun ad e => hb _ (by simp [rowOf, e])
  refine ⟨h.rd.keep hk hr, h.nc, h.cm, ?_, h.nil, fun x hx => ⟨(h.ge x hx).1, Nat.lt_of_lt_of_le (h.ge x hx).2 hk.size⟩⟩
  rcases h.own with ho | ho
  · refine .inl (own_keep ho hk fun k hk' => ?_)
    rcases A with _ | ad
    · cases hk'
    · simp only [Value.ownBlock, Option.some.injEq] at hk'
      subst hk'
      exact hr ad rfl
  · exact .inr ho
theorem u8infoD : ∃ i, Tryz.prog.info? 5 = some i ∧ i.size = 1 := by
  obtain ⟨ht, z, i, hi, hz, hsize, hby, hzs⟩ := u8rowD
  exact ⟨i, hi, hsize⟩
theorem FS.of_own {w : World} {B : Nat} {A : Option Addr} {n c : Nat} {b : List UInt8} (ho : w.ownsRow B 5 1 (.slice A n c) n (b.map bv)) (hn : b.length = n) : FS w B A c b := by
  subst hn
  obtain ⟨A', c', e, hc, hm, hr, _⟩ := own_form ho
  injection e with e1 e2 e3
  subst e1; subst e3
  refine ⟨hr, hc, hm, .inl ho, fun e => ?_, fun x hx => ?_⟩
  · subst e
    rcases ho.2 with ⟨e, e2⟩ | ⟨g, cap, cur, e, _⟩
    · injection e with e1 e3 e4
      exact ⟨e2, e4⟩
    · cases e
  · rcases A with _ | ad
    · cases hx
    · exact ho.lt x (by simp [rowOf] at hx; simp [Value.ownBlock, hx])
theorem rowOf_own {A : Option Addr} {n c x : Nat} (h : x ∈ rowOf A) : (Value.slice A n c).ownBlock = some x := by
  rcases A with _ | ad
  · cases h
  · simp [rowOf] at h; simp [Value.ownBlock, h]
theorem own_rowOf {A : Option Addr} {n c x : Nat} (h : (Value.slice A n c).ownBlock = some x) : x ∈ rowOf A := by
  rcases A with _ | ad
  · cases h
  · simp [Value.ownBlock] at h; simp [rowOf, h]
section
variable {w : World} {ops : Array Oper} {rest : List Oper} {o : Oper} {a : Act} {Q : Exit → Act → World → Prop}
/-- 'append(a file's bytes, what is read)'. -/
theorem wpList_appf (hgd : o.guard = none) (s x : Operand) (ho : o.op = .call { callee := .builtin .append, args := #[s, x], argTypes := #[43, 43] })
    (B : Nat) (A : Option Addr) (n c : Nat) (b : List UInt8) (hs : a.eval s = .slice A n c) (hn : b.length = n) (hF : FS w B A c b)
    (A2 : Option Addr) (m c2 : Nat) (news : List UInt8) (hx : a.eval x = .slice A2 m c2) (hm : news.length = m) (hr : Rd w A2 (news.map bv)) (hbytes : n + m ≤ 140737488355328) (hB : B ≤ w.heap.size)
    (h : ∀ A' c' w', FS w' B A' c' (b ++ news) → Keep (rowOf A) w w' → (∀ x ∈ rowOf A', x ∈ rowOf A ∨ w.heap.size ≤ x) → wpList Tryz.prog ops Q rest (a.put o.dst (.slice A' (n + m) c')) w') : wpList Tryz.prog ops Q (o :: rest) a w := by
  subst hn
  subst hm
  have viaOwn : w.ownsRow B 5 1 (.slice A b.length c) b.length (b.map bv) → wpList Tryz.prog ops Q (o :: rest) a w := fun hO =>
    wpList_appbo hgd s x 43 5 ho u8rowD B _ b.length b hs hO A2 news.length c2 news hx rfl hr hbytes hB fun A' c' w' h2 h3 h4 h5 h6 => by
      refine h A' c' w' (FS.of_own h2 (by simp)) (Keep.grown h6 fun k e => own_rowOf e) fun y hy => ?_
      rcases h5 with e | e
      · exact .inl (own_rowOf (by rw [← e]; exact rowOf_own hy))
      · rw [rowOf_own hy] at e
        injection e with e
        exact .inr (by omega)
  rcases hF.own with hO | hO
  · exact viaOwn hO
  · rcases hA : A with _ | ad
    · obtain ⟨e1, e2⟩ := hF.nil hA
      refine viaOwn ?_
      rw [hA, e2, List.length_eq_zero_iff.1 e1]
      exact World.ownsRow_nil _ _ _ 1
    · by_cases hm0 : news.length = 0
      · obtain ⟨i, hi, hsize⟩ := u8infoD
        refine wpList_plain hgd fun K' hK' => ?_
        have hrun := fun ty => run_append_zero (P := Tryz.prog) w 43 ty 5 i Tryz.underlying43 hi hsize ad b.length c hF.nc hF.cm A2 c2
        unfold Oper.wp
        rw [hA] at hs
        rw [hm0] at hx
        simp [execOp, ho, resolve, invoke, builtin, hs, hx, hrun, Result.andThen]
        have hfin := h A c w (by rw [List.length_eq_zero_iff.1 hm0, List.append_nil]; exact hF) (Keep.refl _ _) (fun y hy => .inl hy)
        rw [hA, hm0] at hfin
        exact hK' _ _ hfin
      · refine wpList_appnew hgd s x 43 5 1 ho u8rowD A b.length c (b.map bv) hs (by simp) hF.rd A2 news.length c2 (news.map bv) hx (by simp) hr (by omega) (by unfold maxLen; omega) (by omega) fun A' c' w' h2 h3 h4 h5 h6 => ?_
        rw [← List.map_append] at h2
        have h7 := FS.of_own h2 (by simp)
        refine h A' c' w' ⟨h7.rd, h7.nc, h7.cm, ?_, h7.nil, fun y hy => ⟨Nat.le_trans hB (h7.ge y hy).1, (h7.ge y hy).2⟩⟩ (Keep.of_ext h6) fun y hy => .inr (h7.ge y hy).1
        rcases h7.own with h8 | h8
        · refine .inl ⟨h8.1, ?_⟩
          rcases h8.2 with h9 | ⟨g, cap, cur, e, hg, r⟩
          · exact .inl h9
          · exact .inr ⟨g, cap, cur, e, Nat.le_trans hB hg, r⟩
        · exact .inr h8
end
/-- One file turns. -/
theorem DiskAt.swap {w w' : World} {B d mb : Nat} {S S' : DS} {l1 l2 : List GF} {g g' : GF} {bs : List Nat} (h : DiskAt w B d mb S (l1 ++ g :: l2)) (hk : Keep bs w w') (hbs : ∀ x ∈ bs, x ∈ ownB g ∨ w.heap.size ≤ x)
    (hnm : g'.f.nm = g.f.nm) (hkk : g'.k = g.k) (hF : FileAt w' B g') (ho : ∀ x ∈ rowOf g'.A, x ∈ rowOf g.A ∨ w.heap.size ≤ x)
    (hd : dcells S'.room mb S'.off S'.bud S'.st = dcells S.room mb S.off S.bud S.st) (hl : S'.l = (l1 ++ g' :: l2).map GF.f) (hok : S'.Ok) :
    DiskAt w' B d mb S' (l1 ++ g' :: l2) ∧ Stp (foot d mb (l1 ++ g :: l2)) (foot d mb (l1 ++ g' :: l2)) w w' := by
  obtain ⟨s1, s2, s3, s4, s5⟩ := h.sep.of
  have hlt := h.lt
  have hmem : ∀ z ∈ l1 ++ l2, z ∈ l1 ++ g :: l2 := fun z hz => by
    rcases List.mem_append.1 hz with hz | hz
    · simp [hz]
    · simp [hz]
  have hin : ∀ x ∈ ownB g, x ∈ foot d mb (l1 ++ g :: l2) := fun x hx => by
    simp only [foot, List.mem_cons, List.mem_flatMap]
    exact .inr (.inr ⟨g, by simp, hx⟩)
  have hinz : ∀ z ∈ l1 ++ l2, ∀ x ∈ ownB z, x ∈ foot d mb (l1 ++ g :: l2) := fun z hz x hx => by
    simp only [foot, List.mem_cons, List.mem_flatMap]
    exact .inr (.inr ⟨z, hmem z hz, hx⟩)
  have hown : ∀ x ∈ ownB g', x ∈ ownB g ∨ w.heap.size ≤ x := fun x hx => by
    rcases List.mem_cons.1 hx with rfl | hx
    · rw [hkk]; exact .inl (by simp [ownB])
    · rcases ho x hx with h1 | h1
      · exact .inl (by simp [ownB, h1])
      · exact .inr h1
  have hnb : ∀ x, x ∈ foot d mb (l1 ++ g :: l2) → x ∉ ownB g → x ∉ bs := fun x hx hn hm => by
    rcases hbs x hm with h1 | h1
    · exact hn h1
    · have := hlt x hx; omega
  have hents : ents (l1 ++ g' :: l2) = ents (l1 ++ g :: l2) := by simp [ents, hnm, hkk]
  have hlen : (l1 ++ g' :: l2).length = (l1 ++ g :: l2).length := by simp
  refine ⟨⟨?_, ?_, fun z hz => ?_, ?_, hl, h.ge, hok⟩, ⟨Keep.trans (bs := foot d mb (l1 ++ g :: l2)) (cs := bs) (Keep.refl _ _) hk fun x hx => ?_, fun x hx => ?_⟩⟩
  · have := h.row.keep hk (hnb d (by simp [foot]) s3)
    rw [show [Value.int .i64 S'.room, .map (some mb), .bool S'.off, .int .i64 S'.bud, .int .i64 S'.st] = [Value.int .i64 S.room, .map (some mb), .bool S.off, .int .i64 S.bud, .int .i64 S.st] from hd]
    exact this
  · have := h.map.keep hk (hnb mb (by simp [foot]) s4)
    unfold MapAt at this ⊢
    rw [hents, hlen]
    exact this
  · rcases List.mem_append.1 hz with hz | hz
    · exact (h.fl z (by simp [hz])).keep hk fun x hx => hnb x (hinz z (by simp [hz]) x hx) fun hm => s5 z (by simp [hz]) x hm hx
    · rcases List.mem_cons.1 hz with rfl | hz
      · exact hF
      · exact (h.fl z (by simp [hz])).keep hk fun x hx => hnb x (hinz z (by simp [hz]) x hx) fun hm => s5 z (by simp [hz]) x hm hx
  · refine h.sep.swap ?_ fun x hx => ?_
    · intro hm
      rw [hkk] at hm
      rcases ho _ hm with h1 | h1
      · exact s2 h1
      · have := hlt g.k (hin _ (by simp [ownB])); omega
    · rcases hown x hx with h1 | h1
      · exact .inl h1
      · refine .inr ⟨fun e => ?_, fun e => ?_, fun z hz hm => ?_⟩
        · have := hlt d (by simp [foot]); omega
        · have := hlt mb (by simp [foot]); omega
        · have := hlt x (hinz z hz x hm); omega
  · rcases hbs x hx with h1 | h1
    · exact .inl (hin x h1)
    · exact .inr h1
  · simp only [foot, List.mem_cons, List.mem_flatMap] at hx
    rcases hx with rfl | rfl | ⟨z, hz, hx⟩
    · exact .inl (by simp [foot])
    · exact .inl (by simp [foot])
    · rcases List.mem_append.1 hz with hz | hz
      · exact .inl (hinz z (by simp [hz]) x hx)
      · rcases List.mem_cons.1 hz with rfl | hz
        · rcases hown x hx with h1 | h1
          · exact .inl (hin x h1)
          · exact .inr h1
        · exact .inl (hinz z (by simp [hz]) x hx)
end Go.Proofs.YtjnbbfhoegeppaaGreatDoor
end
