/-
  A disk of the program's in memory: its row, its map, its files.
-/
import Derived.Test.YtkgnaabmcboffaaDoorRows
import Derived.Test.YtkgnaabmcboffaaDoorKern
import Derived.Test.YtkgnaabmcboffaaDoorDkP
import Derived.Maps.RangeWalk
set_option linter.unusedSimpArgs false
set_option linter.unusedVariables false
namespace Go.Cv
open Go.RowKit
theorem own_keep {w w' : World} {base : Nat} {e : TypeId} {sz n : Nat} {v : Value} {xs : List Value} {bs : List Nat} (h : w.ownsRow base e sz v n xs) (hk : Keep bs w w') (hb : ∀ g, v.ownBlock = some g → g ∉ bs) : w'.ownsRow base e sz v n xs := by
  refine ⟨h.1, ?_⟩
  rcases h.2 with h2 | ⟨g, cap, cur, hv, hg, hgg, r⟩
  · exact .inl h2
  · exact .inr ⟨g, cap, cur, hv, hg, hk.row hgg (hb g (by rw [hv]; rfl)), r⟩
theorem Keep.grown {w w' : World} {g : Option Nat} {bs : List Nat} (h : w.grownBy w' g) (hg : ∀ k, g = some k → k ∈ bs) : Keep bs w w' :=
  ⟨h.os, h.tape, h.output, h.size, fun k hk hn => h.block k hk fun e => hn (hg k e.symm)⟩
theorem Rd.keep {w w' : World} {A : Option Addr} {xs : List Value} {bs : List Nat} (h : Rd w A xs) (hk : Keep bs w w') (hb : ∀ ad, A = some ad → ad.block ∉ bs) : Rd w' A xs := by
  rcases A with _ | ad
  · intro k v hv
    obtain ⟨ad, e, _⟩ := h k v hv
    cases e
  · exact hk.rd h (hb ad rfl)
theorem own_tight {H : Type} {P : Program} {k : TypeId} {R : Value → Option (DataW H × List MemPlace)} {w : World} {b n : Nat} {es : List (Lit × DataW H)} (h : w.ownsMap P k R b n (.map es)) : w.ownsMap P k R b es.length (.map es) := by
  obtain ⟨a, clock, hb, F, hs, hD⟩ := h
  refine ⟨a, clock, hb, F, ?_, hD⟩
  injection hD with hD
  rw [hD, length_sorted]; simp
theorem own_keepm {H : Type} {P : Program} {k : TypeId} {R : Value → Option (DataW H × List MemPlace)} {w w' : World} {b n : Nat} {D : DataW H} {bs : List Nat} (h : w.ownsMap P k R b n D) (hk : Keep bs w w') (hb : b ∉ bs) : w'.ownsMap P k R b n D := by
  obtain ⟨a, clock, hm, r⟩ := h
  exact ⟨a, clock, hk.row hm hb, r⟩
theorem ranges_keep {H : Type} {P : Program} {k : TypeId} {R : Value → Option (DataW H × List MemPlace)} {w w' : World} {b r n cnt : Nat} {D : DataW H} {left : Lit → Bool} {bs : List Nat} (h : w.ranges P k R b r n D left cnt) (hk : Keep bs w w') (hb : b ∉ bs) (hr : r ∉ bs) : w'.ranges P k R b r n D left cnt := by
  obtain ⟨es, clock, since, seen, c0, h1, F, hs, hD, h2, rest⟩ := h
  exact ⟨es, clock, since, seen, c0, hk.row h1 hb, F, hs, hD, hk.row h2 hr, rest⟩
section
variable {P : Program} {w : World} {ops : Array Oper} {rest : List Oper} {o : Oper} {a : Act} {K : Act → World → Prop} {Q : Exit → Act → World → Prop}
/-- 'append(own row of bytes, what is read)', the row followed. -/
theorem wpList_appbo (hgd : o.guard = none) (s x : Operand) (t e : TypeId)
    (ho : o.op = .call { callee := .builtin .append, args := #[s, x], argTypes := #[t, t] }) (hT : RowT P t e 1)
    (base : Nat) (v : Value) (n : Nat) (xs : List UInt8) (hs : a.eval s = v) (hown : w.ownsRow base e 1 v n (xs.map bv))
    (A : Option Addr) (m c : Nat) (news : List UInt8) (hx : a.eval x = .slice A m c) (hm : news.length = m) (hr : Rd w A (news.map bv))
    (hbytes : n + m ≤ 140737488355328) (hbase : base ≤ w.heap.size)
    (h : ∀ A' c' w', w'.ownsRow base e 1 (.slice A' (n + m) c') (n + m) ((xs ++ news).map bv) → n + m ≤ c' → c' ≤ maxLen → ((Value.slice A' (n + m) c').ownBlock = v.ownBlock ∨ (Value.slice A' (n + m) c').ownBlock = some w.heap.size) → w.grownBy w' v.ownBlock → wpList P ops Q rest (a.put o.dst (.slice A' (n + m) c')) w') : wpList P ops Q (o :: rest) a w :=
  wpList_plain hgd fun _ hK => by
    obtain ⟨ht, z, i, hi, hz, hsize, hby, hzs⟩ := hT
    refine wp_append_rd w s x t ho base e i z 1 ht hi hz hsize hby hzs v n _ hs hown A m c _ hx (by simpa using hm) hr (one_map_bv _) (by unfold maxLen; omega) (by omega) hbase fun v' w' h2 h3 h4 => ?_
    obtain ⟨A', c', rfl, hc, hcm, hr', _⟩ := own_form h2
    rw [← List.map_append] at h2
    exact hK _ _ (h A' c' w' h2 hc hcm h4 h3)
end
/-- From one disk's blocks to those it has afterwards: what turned lay among the old ones, what came is new. -/
structure Stp (bs cs : List Nat) (w w' : World) : Prop where
  k : Keep bs w w'
  n : ∀ x ∈ cs, x ∈ bs ∨ w.heap.size ≤ x
theorem Stp.refl (bs : List Nat) (w : World) : Stp bs bs w w := ⟨Keep.refl _ _, fun _ h => .inl h⟩
theorem Stp.trans {bs cs ds : List Nat} {a b c : World} (h : Stp bs cs a b) (k : Stp cs ds b c) : Stp bs ds a c :=
  ⟨h.k.trans k.k h.n, fun x hx => by
    have := h.k.size
    rcases k.n x hx with h1 | h1
    · exact h.n x h1
    · exact .inr (by omega)⟩
theorem Stp.of_ext {bs : List Nat} {a b : World} (h : Ext a b) : Stp bs bs a b := ⟨Keep.of_ext h, fun _ h => .inl h⟩
theorem Stp.ext {bs cs : List Nat} {a b c : World} (h : Stp bs cs a b) (k : Ext b c) : Stp bs cs a c := h.trans (Stp.of_ext k)
theorem Stp.after {bs cs : List Nat} {a b c : World} (k : Ext a b) (h : Stp bs cs b c) : Stp bs cs a c := (Stp.of_ext k).trans h
theorem Stp.not {bs cs : List Nat} {a b : World} (h : Stp bs cs a b) {x : Nat} (hx : x < a.heap.size) (hn : x ∉ bs) : x ∉ cs := fun hm => by
  rcases h.n x hm with h1 | h1
  · exact hn h1
  · omega
end Go.Cv
namespace Go.Proofs.YtkgnaabmcboffaaDoor
open Go.RowKit Go.Cv Go.Cv.Dk
/-- A file and where it lies. -/
structure GF where
  f : PF
  k : Nat
  A : Option Addr
  c : Nat
def GF.nm (g : GF) : List UInt8 := g.f.nm
/-- How a pointer to a block's head reads. -/
def RF : Value → Option (DataW Unit × List MemPlace)
  | .pointer none => some (.nil, [])
  | .pointer (some ⟨k, 0, none⟩) => some (.lit (.int .i64 k), [])
  | _ => none
def pt (k : Nat) : Value := .pointer (some ⟨k, 0, none⟩)
theorem RF_pt (k : Nat) : RF (pt k) = some (.lit (.int .i64 k), []) := rfl
theorem RF_inv {v : Value} {ps : List MemPlace} {k : Nat} (h : RF v = some (.lit (.int .i64 k), ps)) : v = .pointer (some ⟨k, 0, none⟩) := by
  unfold RF at h
  split at h
  · simp at h
  · simp at h; obtain ⟨h, _⟩ := h; have h := Int.ofNat.inj h; subst h; rfl
  · cases h
theorem RF_nil {v : Value} {ps : List MemPlace} (h : RF v = some (.nil, ps)) : v = .pointer none := by
  unfold RF at h
  split at h
  · rfl
  · simp at h
  · cases h
theorem RF_form {v : Value} {y : DataW Unit × List MemPlace} (h : RF v = some y) : ∃ q : Option Nat, v = (match q with | none => .pointer none | some k => .pointer (some ⟨k, 0, none⟩)) := by
  unfold RF at h
  split at h
  · exact ⟨none, rfl⟩
  · exact ⟨some _, rfl⟩
  · cases h
def ents (L : List GF) : List (Lit × DataW Unit) := L.map fun g => (.string g.f.nm, .lit (.int .i64 g.k))
def MapAt (w : World) (mb : Nat) (L : List GF) : Prop := w.ownsMap (H := Unit) Tryd.prog 9 RF mb L.length (.map (ents L))
theorem ents_len (L : List GF) : (ents L).length = L.length := by simp [ents]
theorem MapAt.of {w : World} {mb n : Nat} {L : List GF} (h : w.ownsMap (H := Unit) Tryd.prog 9 RF mb n (.map (ents L))) : MapAt w mb L := by
  have := own_tight h
  rwa [ents_len] at this
theorem MapAt.keep {w w' : World} {mb : Nat} {L : List GF} {bs : List Nat} (h : MapAt w mb L) (hk : Keep bs w w') (hb : mb ∉ bs) : MapAt w' mb L := own_keepm h hk hb
theorem MapAt.lt {w : World} {mb : Nat} {L : List GF} (h : MapAt w mb L) : mb < w.heap.size := World.ownsMap.lt h
theorem MapAt.made (w : World) : MapAt (w.alloc (.map #[] 0)) w.heap.size [] := World.ownsMap_made _ _ _ _
theorem zeroPF (w : World) : (zeroValue 55).run Tryd.prog w = .ok (.pointer none) w := by kernel_rfl
abbrev strK : Maps.Keyed Tryd.prog 9 := Maps.string_keyed Tryd.underlying9
theorem atKey_none {L : List GF} {x : List UInt8} (h : ∀ g ∈ L, g.f.nm ≠ x) (z : DataW Unit) : (DataW.map (ents L)).atKey (.string x) z = z ∧ Maps.has (DataW.map (ents L)) (.string x) = false := by
  have e : ∀ p ∈ ents L, p.1.sameKey (.string x) = false := fun p hp => by
    obtain ⟨g, hg, rfl⟩ := List.mem_map.1 hp
    simpa [Lit.sameKey] using h g hg
  refine ⟨?_, ?_⟩
  · unfold DataW.atKey
    simp only []
    rw [List.find?_eq_none.2 (fun p hp => by rw [e p hp]; simp)]
  · show (ents L).any (fun p => p.1.sameKey (.string x)) = false
    rw [List.any_eq_false]
    exact fun p hp => by rw [e p hp]; simp
theorem atKey_some {l1 l2 : List GF} {g : GF} (h : ∀ z ∈ l1, z.f.nm ≠ g.f.nm) (z : DataW Unit) : (DataW.map (ents (l1 ++ g :: l2))).atKey (.string g.f.nm) z = .lit (.int .i64 g.k) ∧ Maps.has (DataW.map (ents (l1 ++ g :: l2))) (.string g.f.nm) = true := by
  refine ⟨?_, ?_⟩
  · unfold DataW.atKey
    have e : (ents (l1 ++ g :: l2)).find? (fun p => p.1.sameKey (.string g.f.nm)) = some (.string g.f.nm, .lit (.int .i64 g.k)) := by
      unfold ents
      rw [List.map_append, List.find?_append, List.find?_eq_none.2, Option.none_or, List.map_cons, List.find?_cons_of_pos]
      · simp [Lit.sameKey]
      · intro p hp
        obtain ⟨y, hy, rfl⟩ := List.mem_map.1 hp
        simpa [Lit.sameKey] using h y hy
    simp only [e]
  · show (ents (l1 ++ g :: l2)).any (fun p => p.1.sameKey (.string g.f.nm)) = true
    simp [ents, Lit.sameKey]
theorem MapAt.ris {w : World} {mb : Nat} {L : List GF} (h : MapAt w mb L) : Ris GF.nm L := by
  obtain ⟨es, clock, hb, F, hs, hD⟩ := h
  injection hD with hD
  have hr := Maps.fit_rising strK F
  have h2 : (ents L).Pairwise (fun p q => p.1.before q.1 = true) := by
    rw [hD]
    have h3 := ChangeMaps.sorted_sorted (es.toList.map (WideElems.rg Tryd.prog 9 RF)) (fun p hp => ?_) (Maps.fit_apart strK F)
    · exact h3
    · obtain ⟨x, hx, rfl⟩ := List.mem_map.1 hp
      obtain ⟨y, hy⟩ := F.reads x hx
      have hk := WideElems.rd_key hy
      rw [WideElems.rg_of hy]
      obtain ⟨x', _, e, _⟩ : ∃ x' : List UInt8, x.key = .string ⟨x'.toArray⟩ ∧ y.1 = .string x' ∧ x'.length ≤ maxLen := by
        generalize x.key = kk at hk
        cases kk <;> simp [keyOf, Tryd.underlying9, mapKey] at hk
        rename_i s
        obtain ⟨hs, hk⟩ := hk
        exact ⟨s.data.toList, by simp, hk.symm, by simpa using hs⟩
      exact ⟨x', e⟩
  exact (List.pairwise_map.1 h2).imp fun {a b} h => h
/-- 'm[x]'. -/
theorem MapAt.look {w : World} {mb : Nat} {L : List GF} (h : MapAt w mb L) {s : ByteArray} (hs : s.size ≤ maxLen) (hn : ∀ g ∈ L, g.f.nm ≠ s.data.toList) :
    (Instr.lookup 50 (.map (some mb)) (.string s) true).run Tryd.prog w = .ok (.tuple #[.pointer none, .bool false]) w ∧
    (Instr.lookup 50 (.map (some mb)) (.string s) false).run Tryd.prog w = .ok (.pointer none) w := by
  have hkey : keyOf Tryd.prog 9 (.string s) = some (.string s.data.toList) := WideMaps.keyOf_string_mk Tryd.underlying9 hs
  obtain ⟨e1, e2⟩ := atKey_none hn .nil
  constructor
  · obtain ⟨v, ps, hr, hv⟩ := World.ownsMap.look_ok h strK Tryd.underlying50 (zeroPF w) (zd := .nil) (zp := []) rfl hkey
    rw [e1] at hv
    rw [e2] at hr
    rw [hr, RF_nil hv]
  · obtain ⟨v, ps, hr, hv⟩ := World.ownsMap.lookup h strK Tryd.underlying50 (zeroPF w) (zd := .nil) (zp := []) rfl hkey
    rw [e1] at hv
    rw [hr, RF_nil hv]
theorem MapAt.look' {w : World} {mb : Nat} {l1 l2 : List GF} {g : GF} (h : MapAt w mb (l1 ++ g :: l2)) {s : ByteArray} (hs : s.size ≤ maxLen) (hn : ∀ z ∈ l1, z.f.nm ≠ g.f.nm) (hg : g.f.nm = s.data.toList) :
    (Instr.lookup 50 (.map (some mb)) (.string s) true).run Tryd.prog w = .ok (.tuple #[.pointer (some ⟨g.k, 0, none⟩), .bool true]) w ∧
    (Instr.lookup 50 (.map (some mb)) (.string s) false).run Tryd.prog w = .ok (.pointer (some ⟨g.k, 0, none⟩)) w := by
  have hkey : keyOf Tryd.prog 9 (.string s) = some (.string g.f.nm) := by rw [hg]; exact WideMaps.keyOf_string_mk Tryd.underlying9 hs
  obtain ⟨e1, e2⟩ := atKey_some (l2 := l2) hn .nil
  constructor
  · obtain ⟨v, ps, hr, hv⟩ := World.ownsMap.look_ok h strK Tryd.underlying50 (zeroPF w) (zd := .nil) (zp := []) rfl hkey
    rw [e1] at hv
    rw [e2] at hr
    rw [hr, RF_inv hv]
  · obtain ⟨v, ps, hr, hv⟩ := World.ownsMap.lookup h strK Tryd.underlying50 (zeroPF w) (zd := .nil) (zp := []) rfl hkey
    rw [e1] at hv
    rw [hr, RF_inv hv]
theorem ents_ins (g : GF) (L : List GF) : ents (ins GF.nm g L) = DataW.insert (.string g.f.nm, .lit (.int .i64 g.k)) (ents L) := by
  induction L with
  | nil => rfl
  | cons y r ih =>
    have e : DataW.insert (.string g.f.nm, .lit (.int .i64 g.k)) (ents (y :: r)) = (if bytesBefore g.f.nm y.f.nm then (.string g.f.nm, .lit (.int .i64 g.k)) :: ents (y :: r) else (.string y.f.nm, .lit (.int .i64 y.k)) :: DataW.insert (.string g.f.nm, .lit (.int .i64 g.k)) (ents r)) := rfl
    rw [e]
    show ents (if bytesBefore g.f.nm y.f.nm then g :: y :: r else y :: ins GF.nm g r) = _
    split
    · rfl
    · rw [← ih]; rfl
theorem ents_del (L : List GF) (x : List UInt8) : (ents L).filter (fun p => !p.1.sameKey (.string x)) = ents (L.filter fun g => !(g.f.nm == x)) := by
  unfold ents
  rw [List.filter_map]
  rfl
/-- 'm[x] = p'. -/
theorem MapAt.store {w : World} {mb : Nat} {L : List GF} (h : MapAt w mb L) {s : ByteArray} (hs : s.size ≤ maxLen) (hL : L.length < maxLen) (g : GF) (hg : g.f.nm = s.data.toList) :
    ∃ w', (Instr.mapUpdate 50 (.map (some mb)) (.string s) (.pointer (some ⟨g.k, 0, none⟩))).run Tryd.prog w = .ok () w' ∧ MapAt w' mb (ins GF.nm g (L.filter fun z => !(z.f.nm == g.f.nm))) ∧ Keep [mb] w w' := by
  have hkey : keyOf Tryd.prog 9 (.string s) = some (.string g.f.nm) := by rw [hg]; exact WideMaps.keyOf_string_mk Tryd.underlying9 hs
  obtain ⟨w', hr, ho, ht⟩ := World.ownsMap.store h strK Tryd.underlying50 hL hkey (RF_pt g.k)
  refine ⟨w', hr, MapAt.of (n := L.length + 1) ?_, Keep.grown ht.grown (by simp)⟩
  rw [ents_ins, ← ents_del]
  exact ho
/-- 'delete(m, x)'. -/
theorem MapAt.drop {w : World} {mb : Nat} {L : List GF} (h : MapAt w mb L) {s : ByteArray} (hs : s.size ≤ maxLen) (ty : TypeId) :
    ∃ w', (Builtin.delete_ #[50, 9] ty #[.map (some mb), .string s]).run Tryd.prog w = .ok (.tuple #[]) w' ∧ MapAt w' mb (L.filter fun z => !(z.f.nm == s.data.toList)) ∧ Keep [mb] w w' := by
  have hkey : keyOf Tryd.prog 9 (.string s) = some (.string s.data.toList) := WideMaps.keyOf_string_mk Tryd.underlying9 hs
  obtain ⟨w', hr, ho, ht⟩ := World.ownsMap.drop h strK Tryd.underlying50 hkey ty
  refine ⟨w', hr, MapAt.of (n := L.length) ?_, Keep.grown ht.grown (by simp)⟩
  rw [← ents_del]
  exact ho
def rowOf (A : Option Addr) : List Nat := match A with | some ad => [ad.block] | none => []
/-- What is read lies in none of these blocks. -/
def Ap (A : Option Addr) (b : List UInt8) (bs : List Nat) : Prop := b = [] ∨ ∀ x ∈ rowOf A, x ∉ bs
theorem Ap.keep {A : Option Addr} {b : List UInt8} {bs cs : List Nat} {w w' : World} (h : Ap A b bs) (hr : Rd w A (b.map bv)) (hk : Keep cs w w') (hc : ∀ x ∈ cs, x ∈ bs) : Rd w' A (b.map bv) := by
  rcases h with rfl | h
  · exact Rd.nil_
  · exact hr.keep hk fun ad e hm => h ad.block (by simp [rowOf, e]) (hc _ hm)
theorem Ap.of_lt {A : Option Addr} {b : List UInt8} {bs : List Nat} {w : World} (hr : Rd w A (b.map bv)) (h : ∀ x ∈ bs, w.heap.size ≤ x) : Ap A b bs := by
  rcases b with _ | ⟨x, r⟩
  · exact .inl rfl
  · obtain ⟨ad, rfl, hl⟩ := hr.some_ (by simp)
    refine .inr fun y hy hm => ?_
    simp [rowOf] at hy
    subst hy
    have := h _ hm
    omega
theorem Ap.step {A : Option Addr} {b : List UInt8} {bs cs : List Nat} {w w' : World} (h : Ap A b bs) (hr : Rd w A (b.map bv)) (hs : Stp bs cs w w') : Ap A b cs ∧ Rd w' A (b.map bv) := by
  refine ⟨?_, h.keep hr hs.k fun x hx => hx⟩
  rcases h with rfl | h
  · exact .inl rfl
  · rcases b with _ | ⟨x, r⟩
    · exact .inl rfl
    · obtain ⟨ad, rfl, hl⟩ := hr.some_ (by simp)
      refine .inr fun y hy => hs.not ?_ (h y hy)
      simp [rowOf] at hy
      subst hy
      exact hl
def ownB (g : GF) : List Nat := g.k :: rowOf g.A
/-- A file in memory. -/
structure FileAt (w : World) (B : Nat) (g : GF) : Prop where
  row : Row w g.k 57 [.slice g.A g.f.b.length g.c, .int .i64 g.f.sy]
  rd : Rd w g.A (g.f.b.map bv)
  nc : g.f.b.length ≤ g.c
  cm : g.c ≤ maxLen
  sy : g.f.sy ≤ g.f.b.length
  own : w.ownsRow B 5 1 (.slice g.A g.f.b.length g.c) g.f.b.length (g.f.b.map bv) ∨ g.c = g.f.b.length
  nil : g.A = none → g.f.b.length = 0 ∧ g.c = 0
  len : g.f.b.length ≤ 140737488355328
  ge : B ≤ g.k ∧ ∀ x ∈ rowOf g.A, B ≤ x ∧ x < w.heap.size
theorem FileAt.keep {w w' : World} {B : Nat} {g : GF} {bs : List Nat} (h : FileAt w B g) (hk : Keep bs w w') (hb : ∀ x ∈ ownB g, x ∉ bs) : FileAt w' B g := by
  have hr : ∀ ad, g.A = some ad → ad.block ∉ bs := fun ad e => hb _ (by simp [ownB, rowOf, e])
  refine ⟨h.row.keep hk (hb _ (by simp [ownB])), h.rd.keep hk hr, h.nc, h.cm, h.sy, ?_, h.nil, h.len, h.ge.1, fun x hx => ⟨(h.ge.2 x hx).1, Nat.lt_of_lt_of_le (h.ge.2 x hx).2 hk.size⟩⟩
  rcases h.own with ho | ho
  · refine .inl (own_keep ho hk fun k hk' => ?_)
    rcases hA : g.A with _ | ad
    · rw [hA] at hk'; cases hk'
    · rw [hA] at hk'
      simp only [Value.ownBlock, Option.some.injEq] at hk'
      subst hk'
      exact hr ad hA
  · exact .inr ho
theorem FileAt.lt {w : World} {B : Nat} {g : GF} (h : FileAt w B g) : ∀ x ∈ ownB g, x < w.heap.size := fun x hx => by
  rcases List.mem_cons.1 hx with rfl | hx
  · exact h.row.lt
  · exact (h.ge.2 x hx).2
def foot (d mb : Nat) (L : List GF) : List Nat := d :: mb :: L.flatMap ownB
/-- No two lie in one block. -/
structure Sep (d mb : Nat) (L : List GF) : Prop where
  dm : d ≠ mb
  each : ∀ g ∈ L, g.k ∉ rowOf g.A ∧ d ∉ ownB g ∧ mb ∉ ownB g
  two : L.Pairwise fun g h => ∀ x ∈ ownB g, x ∉ ownB h
structure DiskAt (w : World) (B d mb : Nat) (S : DS) (L : List GF) : Prop where
  row : Row w d 52 [.int .i64 S.room, .map (some mb), .bool S.off, .int .i64 S.bud, .int .i64 S.st]
  map : MapAt w mb L
  fl : ∀ g ∈ L, FileAt w B g
  sep : Sep d mb L
  ls : S.l = L.map GF.f
  ge : B ≤ d ∧ B ≤ mb
  ok : S.Ok
theorem DiskAt.lt {w : World} {B d mb : Nat} {S : DS} {L : List GF} (h : DiskAt w B d mb S L) : ∀ x ∈ foot d mb L, x < w.heap.size := fun x hx => by
  rcases List.mem_cons.1 hx with rfl | hx
  · exact h.row.lt
  · rcases List.mem_cons.1 hx with rfl | hx
    · exact h.map.lt
    · obtain ⟨g, hg, hx⟩ := List.mem_flatMap.1 hx
      exact (h.fl g hg).lt x hx
theorem DiskAt.base {w : World} {B d mb : Nat} {S : DS} {L : List GF} (h : DiskAt w B d mb S L) : ∀ x ∈ foot d mb L, B ≤ x := fun x hx => by
  rcases List.mem_cons.1 hx with rfl | hx
  · exact h.ge.1
  · rcases List.mem_cons.1 hx with rfl | hx
    · exact h.ge.2
    · obtain ⟨g, hg, hx⟩ := List.mem_flatMap.1 hx
      rcases List.mem_cons.1 hx with rfl | hx
      · exact (h.fl g hg).ge.1
      · exact ((h.fl g hg).ge.2 x hx).1
theorem DiskAt.keep {w w' : World} {B d mb : Nat} {S : DS} {L : List GF} {bs : List Nat} (h : DiskAt w B d mb S L) (hk : Keep bs w w') (hb : ∀ x ∈ foot d mb L, x ∉ bs) : DiskAt w' B d mb S L :=
  ⟨h.row.keep hk (hb d (by simp [foot])), h.map.keep hk (hb mb (by simp [foot])), fun g hg => (h.fl g hg).keep hk fun x hx => hb x (by simp only [foot, List.mem_cons, List.mem_flatMap]; exact .inr (.inr ⟨g, hg, hx⟩)), h.sep, h.ls, h.ge, h.ok⟩
theorem DiskAt.ext {w w' : World} {B d mb : Nat} {S : DS} {L : List GF} (h : DiskAt w B d mb S L) (hx : Ext w w') : DiskAt w' B d mb S L := h.keep (Keep.of_ext (bs := []) hx) (by simp)
/-- The disk at block d stands so; all its blocks are among bs. -/
def Dsk (w : World) (B d : Nat) (S : DS) (bs : List Nat) : Prop := ∃ mb L, DiskAt w B d mb S L ∧ bs = foot d mb L
theorem Dsk.lt {w : World} {B d : Nat} {S : DS} {bs : List Nat} (h : Dsk w B d S bs) : ∀ x ∈ bs, B ≤ x ∧ x < w.heap.size := by
  obtain ⟨mb, L, h, rfl⟩ := h
  exact fun x hx => ⟨h.base x hx, h.lt x hx⟩
theorem Dsk.keep {w w' : World} {B d : Nat} {S : DS} {bs cs : List Nat} (h : Dsk w B d S bs) (hk : Keep cs w w') (hb : ∀ x ∈ bs, x ∉ cs) : Dsk w' B d S bs := by
  obtain ⟨mb, L, h, rfl⟩ := h
  exact ⟨mb, L, h.keep hk hb, rfl⟩
theorem Dsk.ext {w w' : World} {B d : Nat} {S : DS} {bs : List Nat} (h : Dsk w B d S bs) (hx : Ext w w') : Dsk w' B d S bs := h.keep (Keep.of_ext (bs := []) hx) (by simp)
theorem Dsk.ok {w : World} {B d : Nat} {S : DS} {bs : List Nat} (h : Dsk w B d S bs) : S.Ok := by
  obtain ⟨mb, L, h, rfl⟩ := h
  exact h.ok
theorem Sep.swap {d mb : Nat} {l1 l2 : List GF} {g g' : GF} (h : Sep d mb (l1 ++ g :: l2)) (h1 : g'.k ∉ rowOf g'.A) (hn : ∀ x ∈ ownB g', x ∈ ownB g ∨ (x ≠ d ∧ x ≠ mb ∧ ∀ z ∈ l1 ++ l2, x ∉ ownB z)) : Sep d mb (l1 ++ g' :: l2) := by
  obtain ⟨t1, t2, t3⟩ := List.pairwise_append.1 h.two
  obtain ⟨t4, t5⟩ := List.pairwise_cons.1 t2
  have hd := (h.each g (by simp)).2
  refine ⟨h.dm, fun z hz => ?_, List.pairwise_append.2 ⟨t1, List.pairwise_cons.2 ⟨fun z hz x hx hx2 => ?_, t5⟩, fun y hy z hz x hx hx2 => ?_⟩⟩
  · rcases List.mem_append.1 hz with hz | hz
    · exact h.each z (by simp [hz])
    · rcases List.mem_cons.1 hz with rfl | hz
      · refine ⟨h1, fun hm => ?_, fun hm => ?_⟩
        · rcases hn _ hm with h2 | h2
          · exact hd.1 h2
          · exact h2.1 rfl
        · rcases hn _ hm with h2 | h2
          · exact hd.2 h2
          · exact h2.2.1 rfl
      · exact h.each z (by simp [hz])
  · rcases hn x hx with h2 | h2
    · exact t4 z hz x h2 hx2
    · exact h2.2.2 z (by simp [hz]) hx2
  · rcases List.mem_cons.1 hz with rfl | hz
    · rcases hn x hx2 with h2 | h2
      · exact t3 y hy g (by simp) x hx h2
      · exact h2.2.2 y (by simp [hy]) hx
    · exact t3 y hy z (by simp [hz]) x hx hx2
theorem Sep.add {d mb : Nat} {l1 l2 : List GF} {g : GF} (h : Sep d mb (l1 ++ l2)) (h1 : g.k ∉ rowOf g.A) (hn : ∀ x ∈ ownB g, x ≠ d ∧ x ≠ mb ∧ ∀ z ∈ l1 ++ l2, x ∉ ownB z) : Sep d mb (l1 ++ g :: l2) := by
  obtain ⟨t1, t2, t3⟩ := List.pairwise_append.1 h.two
  refine ⟨h.dm, fun z hz => ?_, List.pairwise_append.2 ⟨t1, List.pairwise_cons.2 ⟨fun z hz x hx hx2 => (hn x hx).2.2 z (by simp [hz]) hx2, t2⟩, fun y hy z hz x hx hx2 => ?_⟩⟩
  · rcases List.mem_append.1 hz with hz | hz
    · exact h.each z (by simp [hz])
    · rcases List.mem_cons.1 hz with rfl | hz
      · exact ⟨h1, fun hm => (hn _ hm).1 rfl, fun hm => (hn _ hm).2.1 rfl⟩
      · exact h.each z (by simp [hz])
  · rcases List.mem_cons.1 hz with rfl | hz
    · exact (hn x hx2).2.2 y (by simp [hy]) hx
    · exact t3 y hy z hz x hx hx2
theorem Sep.sub {d mb : Nat} {L l : List GF} (h : Sep d mb L) (hl : l.Sublist L) : Sep d mb l := ⟨h.dm, fun g hg => h.each g (hl.subset hg), h.two.sublist hl⟩
theorem Sep.of {d mb : Nat} {l1 l2 : List GF} {g : GF} (h : Sep d mb (l1 ++ g :: l2)) : d ≠ mb ∧ g.k ∉ rowOf g.A ∧ d ∉ ownB g ∧ mb ∉ ownB g ∧ ∀ z ∈ l1 ++ l2, ∀ x ∈ ownB g, x ∉ ownB z := by
  obtain ⟨t1, t2, t3⟩ := List.pairwise_append.1 h.two
  obtain ⟨t4, t5⟩ := List.pairwise_cons.1 t2
  obtain ⟨e1, e2, e3⟩ := h.each g (by simp)
  refine ⟨h.dm, e1, e2, e3, fun z hz x hx hx2 => ?_⟩
  rcases List.mem_append.1 hz with hz | hz
  · exact t3 z hz g (by simp) x hx2 hx
  · exact t4 z hz x hx hx2
end Go.Proofs.YtkgnaabmcboffaaDoor
