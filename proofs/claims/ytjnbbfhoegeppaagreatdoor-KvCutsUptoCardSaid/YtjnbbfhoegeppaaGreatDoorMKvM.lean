/-
  Texts of the lemmas below the claim, put together: KvM KvE.
-/
import Derived.Test.YtjnbbfhoegeppaaGreatDoorMKvD
import Derived.WideKeyEntry
import Derived.Deep.RegionLaw
section
/-
  A store of the program's in memory: its row, its map of values.
-/
set_option linter.unusedSimpArgs false
set_option linter.unusedVariables false
namespace Go.Proofs.YtjnbbfhoegeppaaGreatDoor
open Go.RowKit Go.Cv Go.Cv.Dk Go.Cv.Wal Go.Cv.Kv
/-- A pair and where its value lies. -/
structure GV where
  k : List UInt8
  q : Option Nat
  c : Nat
  v : List UInt8
def GV.pp (g : GV) : PP := ⟨g.k, g.v⟩
def GV.A (g : GV) : Option Addr := g.q.map fun b => ⟨b, 0, none⟩
def GV.val (g : GV) : Value := .slice g.A g.v.length g.c
def GV.dat (g : GV) : DataW Unit := match g.q with
  | none => .agg [.lit (.int .i64 g.v.length), .lit (.int .i64 g.c)]
  | some b => .agg [.lit (.int .i64 b), .lit (.int .i64 g.v.length), .lit (.int .i64 g.c)]
/-- How a slice from a block's head reads. -/
def RV : Value → Option (DataW Unit × List MemPlace)
  | .slice none n c => some (.agg [.lit (.int .i64 n), .lit (.int .i64 c)], [])
  | .slice (some ⟨b, 0, none⟩) n c => some (.agg [.lit (.int .i64 b), .lit (.int .i64 n), .lit (.int .i64 c)], [])
  | _ => none
theorem RV_val (g : GV) : RV g.val = some (g.dat, []) := by
  obtain ⟨k, q, c, v⟩ := g
  cases q <;> rfl
theorem RV_inv {x : Value} {ps : List MemPlace} {g : GV} (h : RV x = some (g.dat, ps)) : x = g.val := by
  obtain ⟨k, q, c, v⟩ := g
  unfold RV at h
  split at h
  · cases q with
    | none =>
      simp [GV.dat] at h
      obtain ⟨⟨h1, h2⟩, _⟩ := h
      rw [Int.ofNat.inj h1, Int.ofNat.inj h2]; rfl
    | some b => simp [GV.dat] at h
  · cases q with
    | none => simp [GV.dat] at h
    | some b =>
      simp [GV.dat] at h
      obtain ⟨⟨h0, h1, h2⟩, _⟩ := h
      rw [Int.ofNat.inj h0, Int.ofNat.inj h1, Int.ofNat.inj h2]; rfl
  · cases h
theorem RV_nil {x : Value} {ps : List MemPlace} (h : RV x = some (.agg [.lit (.int .i64 0), .lit (.int .i64 0)], ps)) : x = .slice none 0 0 := RV_inv (g := ⟨[], none, 0, []⟩) h
def entv (L : List GV) : List (Lit × DataW Unit) := L.map fun g => (.string g.k, g.dat)
def MapV (w : World) (mb : Nat) (L : List GV) : Prop := w.ownsMap (H := Unit) Tryz.prog 9 RV mb L.length (.map (entv L))
theorem entv_len (L : List GV) : (entv L).length = L.length := by simp [entv]
theorem MapV.of {w : World} {mb n : Nat} {L : List GV} (h : w.ownsMap (H := Unit) Tryz.prog 9 RV mb n (.map (entv L))) : MapV w mb L := by
  have := own_tight h
  rwa [entv_len] at this
theorem MapV.keep {w w' : World} {mb : Nat} {L : List GV} {bs : List Nat} (h : MapV w mb L) (hk : Keep bs w w') (hb : mb ∉ bs) : MapV w' mb L := own_keepm h hk hb
theorem MapV.lt {w : World} {mb : Nat} {L : List GV} (h : MapV w mb L) : mb < w.heap.size := World.ownsMap.lt h
theorem MapV.made (w : World) : MapV (w.alloc (.map #[] 0)) w.heap.size [] := World.ownsMap_made _ _ _ _
theorem zeroSl (w : World) : (zeroValue 43).run Tryz.prog w = .ok (.slice none 0 0) w := by kernel_rfl
theorem atV_none {L : List GV} {x : List UInt8} (h : ∀ g ∈ L, g.k ≠ x) (z : DataW Unit) : (DataW.map (entv L)).atKey (.string x) z = z ∧ Maps.has (DataW.map (entv L)) (.string x) = false := by
  have e : ∀ p ∈ entv L, p.1.sameKey (.string x) = false := fun p hp => by
    obtain ⟨g, hg, rfl⟩ := List.mem_map.1 hp
    simpa [Lit.sameKey] using h g hg
  refine ⟨?_, ?_⟩
  · unfold DataW.atKey
    simp only []
    rw [List.find?_eq_none.2 (fun p hp => by rw [e p hp]; simp)]
  · show (entv L).any (fun p => p.1.sameKey (.string x)) = false
    rw [List.any_eq_false]
    exact fun p hp => by rw [e p hp]; simp
theorem atV_some {l1 l2 : List GV} {g : GV} (h : ∀ z ∈ l1, z.k ≠ g.k) (z : DataW Unit) : (DataW.map (entv (l1 ++ g :: l2))).atKey (.string g.k) z = g.dat ∧ Maps.has (DataW.map (entv (l1 ++ g :: l2))) (.string g.k) = true := by
  refine ⟨?_, ?_⟩
  · unfold DataW.atKey
    have e : (entv (l1 ++ g :: l2)).find? (fun p => p.1.sameKey (.string g.k)) = some (.string g.k, g.dat) := by
      unfold entv
      rw [List.map_append, List.find?_append, List.find?_eq_none.2, Option.none_or, List.map_cons, List.find?_cons_of_pos]
      · simp [Lit.sameKey]
      · intro p hp
        obtain ⟨y, hy, rfl⟩ := List.mem_map.1 hp
        simpa [Lit.sameKey] using h y hy
    simp only [e]
  · show (entv (l1 ++ g :: l2)).any (fun p => p.1.sameKey (.string g.k)) = true
    simp [entv, Lit.sameKey]
theorem MapV.ris {w : World} {mb : Nat} {L : List GV} (h : MapV w mb L) : Ris GV.k L := by
  obtain ⟨es, clock, hb, F, hs, hD⟩ := h
  injection hD with hD
  have h2 : (entv L).Pairwise (fun p q => p.1.before q.1 = true) := by
    rw [hD]
    have h3 := ChangeMaps.sorted_sorted (es.toList.map (WideElems.rg Tryz.prog 9 RV)) (fun p hp => ?_) (Maps.fit_apart strK F)
    · exact h3
    · obtain ⟨x, hx, rfl⟩ := List.mem_map.1 hp
      obtain ⟨y, hy⟩ := F.reads x hx
      have hk := WideElems.rd_key hy
      rw [WideElems.rg_of hy]
      obtain ⟨x', _, e, _⟩ : ∃ x' : List UInt8, x.key = .string ⟨x'.toArray⟩ ∧ y.1 = .string x' ∧ x'.length ≤ maxLen := by
        generalize x.key = kk at hk
        cases kk <;> simp [keyOf, Tryz.underlying9, mapKey] at hk
        rename_i s
        obtain ⟨hs, hk⟩ := hk
        exact ⟨s.data.toList, by simp, hk.symm, by simpa using hs⟩
      exact ⟨x', e⟩
  exact (List.pairwise_map.1 h2).imp fun {a b} h => h
/-- 'm[x]'. -/
theorem MapV.look {w : World} {mb : Nat} {L : List GV} (h : MapV w mb L) {s : ByteArray} (hs : s.size ≤ maxLen) (hn : ∀ g ∈ L, g.k ≠ s.data.toList) :
    (Instr.lookup 76 (.map (some mb)) (.string s) true).run Tryz.prog w = .ok (.tuple #[.slice none 0 0, .bool false]) w := by
  have hkey : keyOf Tryz.prog 9 (.string s) = some (.string s.data.toList) := WideMaps.keyOf_string_mk Tryz.underlying9 hs
  obtain ⟨e1, e2⟩ := atV_none hn (.agg [.lit (.int .i64 0), .lit (.int .i64 0)])
  obtain ⟨v, ps, hr, hv⟩ := World.ownsMap.look_ok h strK Tryz.underlying76 (zeroSl w) (zd := .agg [.lit (.int .i64 0), .lit (.int .i64 0)]) (zp := []) rfl hkey
  rw [e1] at hv
  rw [e2] at hr
  rw [hr, RV_nil hv]
theorem MapV.look' {w : World} {mb : Nat} {l1 l2 : List GV} {g : GV} (h : MapV w mb (l1 ++ g :: l2)) {s : ByteArray} (hs : s.size ≤ maxLen) (hn : ∀ z ∈ l1, z.k ≠ g.k) (hg : g.k = s.data.toList) :
    (Instr.lookup 76 (.map (some mb)) (.string s) true).run Tryz.prog w = .ok (.tuple #[g.val, .bool true]) w ∧
    (Instr.lookup 76 (.map (some mb)) (.string s) false).run Tryz.prog w = .ok g.val w := by
  have hkey : keyOf Tryz.prog 9 (.string s) = some (.string g.k) := by rw [hg]; exact WideMaps.keyOf_string_mk Tryz.underlying9 hs
  obtain ⟨e1, e2⟩ := atV_some (l2 := l2) hn (.agg [.lit (.int .i64 0), .lit (.int .i64 0)])
  constructor
  · obtain ⟨v, ps, hr, hv⟩ := World.ownsMap.look_ok h strK Tryz.underlying76 (zeroSl w) (zd := .agg [.lit (.int .i64 0), .lit (.int .i64 0)]) (zp := []) rfl hkey
    rw [e1] at hv
    rw [e2] at hr
    rw [hr, RV_inv hv]
  · obtain ⟨v, ps, hr, hv⟩ := World.ownsMap.lookup h strK Tryz.underlying76 (zeroSl w) (zd := .agg [.lit (.int .i64 0), .lit (.int .i64 0)]) (zp := []) rfl hkey
    rw [e1] at hv
    rw [hr, RV_inv hv]
theorem entv_ins (g : GV) (L : List GV) : entv (ins GV.k g L) = DataW.insert (.string g.k, g.dat) (entv L) := by
  induction L with
  | nil => rfl
  | cons y r ih =>
    have e : DataW.insert (.string g.k, g.dat) (entv (y :: r)) = (if bytesBefore g.k y.k then (.string g.k, g.dat) :: entv (y :: r) else (.string y.k, y.dat) :: DataW.insert (.string g.k, g.dat) (entv r)) := rfl
    rw [e]
    show entv (if bytesBefore g.k y.k then g :: y :: r else y :: ins GV.k g r) = _
    split
    · rfl
    · rw [← ih]; rfl
theorem entv_del (L : List GV) (x : List UInt8) : (entv L).filter (fun p => !p.1.sameKey (.string x)) = entv (L.filter fun g => !(g.k == x)) := by
  unfold entv
  rw [List.filter_map]
  rfl
def setV (g : GV) (L : List GV) : List GV := ins GV.k g (L.filter fun z => !(z.k == g.k))
/-- 'm[x] = v'. -/
theorem MapV.store {w : World} {mb : Nat} {L : List GV} (h : MapV w mb L) {s : ByteArray} (hs : s.size ≤ maxLen) (hL : L.length < maxLen) (g : GV) (hg : g.k = s.data.toList) :
    ∃ w', (Instr.mapUpdate 76 (.map (some mb)) (.string s) g.val).run Tryz.prog w = .ok () w' ∧ MapV w' mb (setV g L) ∧ Keep [mb] w w' := by
  have hkey : keyOf Tryz.prog 9 (.string s) = some (.string g.k) := by rw [hg]; exact WideMaps.keyOf_string_mk Tryz.underlying9 hs
  obtain ⟨w', hr, ho, ht⟩ := World.ownsMap.store h strK Tryz.underlying76 hL hkey (RV_val g)
  refine ⟨w', hr, MapV.of (n := L.length + 1) ?_, Keep.grown ht.grown (by simp)⟩
  unfold setV
  rw [entv_ins, ← entv_del]
  exact ho
theorem setBlock_two (w : World) (b : Nat) (o o' : Obj) : ChangeMaps.setBlock (ChangeMaps.setBlock w b o) b o' = ChangeMaps.setBlock w b o' := by
  unfold ChangeMaps.setBlock
  simp
theorem setBlock_get {w : World} {b : Nat} {o o' : Obj} (h : w.heap[b]? = some o) : (ChangeMaps.setBlock w b o').heap[b]? = some o' := by
  obtain ⟨hlt, _⟩ := Array.getElem?_eq_some_iff.1 h
  unfold ChangeMaps.setBlock
  simp [hlt]
/-- 'm[x], y = v, z'. -/
theorem MapV.entry {w : World} {mb : Nat} {L : List GV} (h : MapV w mb L) {s : ByteArray} (hs : s.size ≤ maxLen) (hL : L.length < maxLen) (g : GV) (hg : g.k = s.data.toList) :
    ∃ v0 st w1 w', (Instr.mapEntry 76 (.map (some mb)) (.string s)).run Tryz.prog w = .ok (.tuple #[v0, st]) w1 ∧ (Instr.entryStore 76 (.map (some mb)) st g.val).run Tryz.prog w1 = .ok () w' ∧ MapV w' mb (setV g L) ∧ Keep [mb] w w' := by
  have hkey : keyOf Tryz.prog 9 (.string s) = some (.string g.k) := by rw [hg]; exact WideMaps.keyOf_string_mk Tryz.underlying9 hs
  obtain ⟨w', hr, hM, hk⟩ := h.store hs hL g hg
  obtain ⟨es, clock, hb, F, _⟩ := h
  obtain ⟨v0, st, es1, c1, h1, _, h2⟩ := WideElems.entry_then_store (WideMaps.string_law Tryz.underlying9) Tryz.underlying76 zeroSl hb F hkey
  obtain ⟨es', c', h3, h4⟩ := h2 (ChangeMaps.setBlock w mb (.map es1 c1)) g.val (setBlock_get hb)
  rw [setBlock_two] at h3
  rw [hr] at h4
  injection h4 with _ h4
  rw [← h4] at h3
  exact ⟨v0, _, _, w', h1, h3, hM, hk⟩
/-- 'delete(m, x)'. -/
theorem MapV.drop {w : World} {mb : Nat} {L : List GV} (h : MapV w mb L) {s : ByteArray} (hs : s.size ≤ maxLen) (ty : TypeId) :
    ∃ w', (Builtin.delete_ #[76, 9] ty #[.map (some mb), .string s]).run Tryz.prog w = .ok (.tuple #[]) w' ∧ MapV w' mb (L.filter fun z => !(z.k == s.data.toList)) ∧ Keep [mb] w w' := by
  have hkey : keyOf Tryz.prog 9 (.string s) = some (.string s.data.toList) := WideMaps.keyOf_string_mk Tryz.underlying9 hs
  obtain ⟨w', hr, ho, ht⟩ := World.ownsMap.drop h strK Tryz.underlying76 hkey ty
  refine ⟨w', hr, MapV.of (n := L.length) ?_, Keep.grown ht.grown (by simp)⟩
  rw [← entv_del]
  exact ho
/-- A pair's value: in a row of its own. -/
structure GV.Ok (w : World) (B : Nat) (g : GV) : Prop where
  own : w.ownsRow B 5 1 g.val g.v.length (g.v.map bv)
  kb : g.k.length ≤ 1099511627776
  vb : g.v.length ≤ 1099511627776
def GV.bl (g : GV) : List Nat := rowOf g.A
theorem GV.Ok.keep {w w' : World} {B : Nat} {g : GV} {bs : List Nat} (h : g.Ok w B) (hk : Keep bs w w') (hb : ∀ x ∈ g.bl, x ∉ bs) : g.Ok w' B :=
  ⟨own_keep h.own hk fun x hx => hb x (by
    unfold GV.val at hx
    unfold GV.bl
    rcases hA : g.A with _ | ad
    · rw [hA] at hx; cases hx
    · rw [hA] at hx; simp [Value.ownBlock] at hx; simp [rowOf, hx]), h.kb, h.vb⟩
theorem GV.Ok.lt {w : World} {B : Nat} {g : GV} (h : g.Ok w B) : ∀ x ∈ g.bl, B ≤ x ∧ x < w.heap.size := fun x hx => h.own.lt x (rowOf_own hx)
theorem GV.Ok.rd {w : World} {B : Nat} {g : GV} (h : g.Ok w B) : Rd w g.A (g.v.map bv) := Rd.of_own h.own
theorem GV.Ok.nl {w : World} {B : Nat} {g : GV} (h : g.Ok w B) (e : g.A = none) : g.v.length = 0 ∧ g.c = 0 := by
  obtain ⟨k, q, c, v⟩ := g
  cases q with
  | some b => cases e
  | none =>
    refine ⟨(nil_of_none h.rd rfl).1, ?_⟩
    rcases h.own.2 with ⟨h3, _⟩ | ⟨_, _, _, h3, _⟩
    · injection h3
    · injection h3 with h4 _ _
      cases h4
def sfoot (s g mb : Nat) (L : List GV) : List Nat := s :: mb :: g :: L.flatMap GV.bl
def logN : ByteArray := ⟨#[108, 111, 103]⟩
/-- A store in memory. -/
structure StoAt (w : World) (B s d g mb : Nat) (K : KS) (L : List GV) : Prop where
  row : Row w s 78 [.pointer (some ⟨d, 0, none⟩), .pointer (some ⟨g, 0, none⟩), .map (some mb), .int .i64 K.n]
  map : MapV w mb L
  val : ∀ z ∈ L, z.Ok w B
  log : LogAt w g d logN
  ls : K.l = L.map GV.pp
  sep : s ≠ mb ∧ s ≠ g ∧ mb ≠ g ∧ ∀ z ∈ L, s ∉ z.bl ∧ mb ∉ z.bl
  ge : B ≤ s ∧ B ≤ mb ∧ B ≤ g
theorem StoAt.lt {w : World} {B s d g mb : Nat} {K : KS} {L : List GV} (h : StoAt w B s d g mb K L) : ∀ x ∈ sfoot s g mb L, B ≤ x ∧ x < w.heap.size := fun x hx => by
  simp only [sfoot, List.mem_cons, List.mem_flatMap] at hx
  rcases hx with rfl | rfl | rfl | ⟨z, hz, hx⟩
  · exact ⟨h.ge.1, h.row.lt⟩
  · exact ⟨h.ge.2.1, h.map.lt⟩
  · exact ⟨h.ge.2.2, h.log.lt⟩
  · exact (h.val z hz).lt x hx
theorem StoAt.keep {w w' : World} {B s d g mb : Nat} {K : KS} {L : List GV} {bs : List Nat} (h : StoAt w B s d g mb K L) (hk : Keep bs w w') (hb : ∀ x ∈ sfoot s g mb L, x ∉ bs) : StoAt w' B s d g mb K L :=
  ⟨h.row.keep hk (hb s (by simp [sfoot])), h.map.keep hk (hb mb (by simp [sfoot])), fun z hz => (h.val z hz).keep hk fun x hx => hb x (by simp only [sfoot, List.mem_cons, List.mem_flatMap]; exact .inr (.inr (.inr ⟨z, hz, hx⟩))), h.log.keep hk (hb g (by simp [sfoot])), h.ls, h.sep, h.ge⟩
theorem StoAt.ext {w w' : World} {B s d g mb : Nat} {K : KS} {L : List GV} (h : StoAt w B s d g mb K L) (hx : Ext w w') : StoAt w' B s d g mb K L := h.keep (Keep.of_ext (bs := []) hx) (by simp)
/-- The store at block s stands so; all its blocks are among bs. -/
def Sto (w : World) (B s d : Nat) (K : KS) (bs : List Nat) : Prop := ∃ g mb L, StoAt w B s d g mb K L ∧ bs = sfoot s g mb L
theorem Sto.lt {w : World} {B s d : Nat} {K : KS} {bs : List Nat} (h : Sto w B s d K bs) : ∀ x ∈ bs, B ≤ x ∧ x < w.heap.size := by
  obtain ⟨g, mb, L, h, rfl⟩ := h
  exact h.lt
theorem Sto.keep {w w' : World} {B s d : Nat} {K : KS} {bs cs : List Nat} (h : Sto w B s d K bs) (hk : Keep cs w w') (hb : ∀ x ∈ bs, x ∉ cs) : Sto w' B s d K bs := by
  obtain ⟨g, mb, L, h, rfl⟩ := h
  exact ⟨g, mb, L, h.keep hk hb, rfl⟩
theorem Sto.ext {w w' : World} {B s d : Nat} {K : KS} {bs : List Nat} (h : Sto w B s d K bs) (hx : Ext w w') : Sto w' B s d K bs := h.keep (Keep.of_ext (bs := []) hx) (by simp)
theorem ris_pp {L : List GV} (h : Ris GV.k L) : Ris PP.k (L.map GV.pp) := (Ris.map (key := GV.k) (key' := PP.k) (f := GV.pp) (fun _ => rfl)).2 h
theorem filter_pp (L : List GV) (x : List UInt8) : (L.filter fun z => !(z.k == x)).map GV.pp = delK (L.map GV.pp) x := by
  unfold delK
  rw [List.filter_map]
  rfl
theorem setV_pp (g : GV) (L : List GV) : (setV g L).map GV.pp = setK (L.map GV.pp) g.k g.v := by
  unfold setV setK
  rw [ins_map (key := GV.k) (key' := PP.k) (fun _ => rfl), filter_pp]
  rfl
theorem setV_mem {g z : GV} {L : List GV} (h : z ∈ setV g L) : z = g ∨ z ∈ L := by
  rcases (ins_mem _ _ _ _).1 h with h | h
  · exact .inl h
  · exact .inr (List.mem_filter.1 h).1
theorem setV_len (g : GV) (L : List GV) : (setV g L).length ≤ L.length + 1 := by
  unfold setV
  rw [ins_length]
  have := List.length_filter_le (fun z : GV => !(z.k == g.k)) L
  omega
end Go.Proofs.YtjnbbfhoegeppaaGreatDoor
end
section
/-
  Walks of the store: a batch is done; a value, how many batches.
-/
set_option linter.unusedSimpArgs false
set_option linter.unusedVariables false
namespace Go.Proofs.YtjnbbfhoegeppaaGreatDoor
open Go.RowKit Go.Cv Go.Cv.Dk Go.Cv.Wal Go.Cv.Kv
/-- Writes that lie in none of these blocks. -/
structure WsAp (A : Option Addr) (W : List WV) (bs : List Nat) : Prop where
  row : W = [] ∨ ∀ y ∈ rowOf A, y ∉ bs
  val : ∀ x ∈ W, Ap x.A x.v bs
theorem WV.Ok.keep {w w' : World} {x : WV} {bs : List Nat} (h : x.Ok w) (hk : Keep bs w w') (ha : Ap x.A x.v bs) : x.Ok w' := ⟨ha.keep h.rd hk fun _ h => h, h.nl, h.kb, h.vb⟩
theorem WsAt.keep {w w' : World} {A : Option Addr} {W : List WV} {bs : List Nat} (h : WsAt w A W) (ha : WsAp A W bs) (hk : Keep bs w w') : WsAt w' A W := by
  refine ⟨?_, fun x hx => (h.ok x hx).keep hk (ha.val x hx)⟩
  rcases ha.row with rfl | hr
  · exact Rd.nil_
  · exact h.rd.keep hk fun ad e => hr _ (by simp [rowOf, e])
theorem WsAp.mono {A : Option Addr} {W : List WV} {bs cs : List Nat} (h : WsAp A W bs) (hs : ∀ x ∈ cs, x ∈ bs) : WsAp A W cs :=
  ⟨h.row.imp id fun hr y hy hm => hr y hy (hs y hm), fun x hx => (h.val x hx).imp id fun hr y hy hm => hr y hy (hs y hm)⟩
theorem StoAt.upd {w w' : World} {B s d g mb : Nat} {K K' : KS} {L L' : List GV} (h : StoAt w B s d g mb K L) (hk : Keep [mb] w w') (hM : MapV w' mb L') (hv : ∀ z ∈ L', z ∈ L ∨ (z.Ok w' B ∧ s ∉ z.bl ∧ mb ∉ z.bl)) (hls : K'.l = L'.map GV.pp) (hn : K'.n = K.n) : StoAt w' B s d g mb K' L' := by
  refine ⟨?_, hM, fun z hz => ?_, h.log.keep hk (by simpa using fun e => h.sep.2.2.1 e.symm), hls, ⟨h.sep.1, h.sep.2.1, h.sep.2.2.1, fun z hz => ?_⟩, h.ge⟩
  · rw [hn]; exact h.row.keep hk (by simpa using h.sep.1)
  · rcases hv z hz with h1 | h1
    · exact (h.val z h1).keep hk fun x hx hm => by rw [List.mem_singleton.1 hm] at hx; exact (h.sep.2.2.2 z h1).2 hx
    · exact h1.1
  · rcases hv z hz with h1 | h1
    · exact h.sep.2.2.2 z h1
    · exact h1.2
theorem gv_of {w : World} {base n c : Nat} {A : Option Addr} {v : List UInt8} (ho : w.ownsRow base 5 1 (.slice A n c) n (v.map bv)) (k : List UInt8) : ∃ q, (⟨k, q, c, v⟩ : GV).val = .slice A n c ∧ (⟨k, q, c, v⟩ : GV).A = A := by
  have hn := own_q ho
  rcases ho.2 with ⟨h0, _⟩ | ⟨g, cap, cur, h0, _⟩
  · injection h0 with h1 h2 h3
    subst h1
    exact ⟨none, by show Value.slice none v.length c = _; rw [hn], rfl⟩
  · injection h0 with h1 h2 h3
    subst h1
    exact ⟨some g, by show Value.slice (some ⟨g, 0, none⟩) v.length c = _; rw [hn], rfl⟩
section
variable {w : World} {ops : Array Oper} {rest : List Oper} {o : Oper} {a : Act} {Q : Exit → Act → World → Prop}
/-- 'delete(m, x)'. -/
theorem wpList_dropV (hg : o.guard = none) (m x : Operand) (hop : o.op = Op.call { callee := Callee.builtin Builtin.delete, args := #[m, x], argTypes := #[76, 9] })
    (mb : Nat) (L : List GV) (hm : a.eval m = .map (some mb)) (h : MapV w mb L) (s : ByteArray) (hx : a.eval x = .string s) (hs : s.size ≤ 281474976710656)
    (hK : ∀ w', MapV w' mb (L.filter fun z => !(z.k == s.data.toList)) → Keep [mb] w w' → wpList Tryz.prog ops Q rest (a.put o.dst (.tuple #[])) w') :
    wpList Tryz.prog ops Q (o :: rest) a w := by
  refine wpList_plain hg fun K' hK' => ?_
  obtain ⟨w', hrun, r1, r2⟩ := h.drop (s := s) (by unfold maxLen; omega) o.type
  unfold Oper.wp
  simp [execOp, hop, resolve, invoke, builtin, hm, hx, hrun, Result.andThen]
  exact hK' _ _ (hK w' r1 r2)
theorem step_dropV {K : Act → World → Prop} {E : Prop} (hg : o.guard = none) (m x : Operand) (hop : o.op = Op.call { callee := Callee.builtin Builtin.delete, args := #[m, x], argTypes := #[76, 9] })
    (mb : Nat) (L : List GV) (hm : a.eval m = .map (some mb)) (h : MapV w mb L) (s : ByteArray) (hx : a.eval x = .string s) (hs : s.size ≤ 281474976710656)
    (hK : ∀ w', MapV w' mb (L.filter fun z => !(z.k == s.data.toList)) → Keep [mb] w w' → K (a.put o.dst (.tuple #[])) w') :
    if Region.wanted o (yielded ops a.tmps) = true then Oper.wp Tryz.prog o a w K Q else E := by
  have hw : Region.wanted o (yielded ops a.tmps) = true := by simp [Region.wanted, hg]
  rw [if_pos hw]
  obtain ⟨w', hrun, r1, r2⟩ := h.drop (s := s) (by unfold maxLen; omega) o.type
  unfold Oper.wp
  simp [execOp, hop, resolve, invoke, builtin, hm, hx, hrun, Result.andThen]
  exact hK w' r1 r2
end
theorem sfoot_sub {s g mb : Nat} {L L' : List GV} {N : Nat} (h : ∀ z ∈ L', z ∈ L ∨ ∀ x ∈ z.bl, N ≤ x) : ∀ x ∈ sfoot s g mb L', x ∈ sfoot s g mb L ∨ N ≤ x := fun x hx => by
  simp only [sfoot, List.mem_cons, List.mem_flatMap] at hx ⊢
  rcases hx with h1 | h1 | h1 | ⟨z, hz, h1⟩
  · exact .inl (.inl h1)
  · exact .inl (.inr (.inl h1))
  · exact .inl (.inr (.inr (.inl h1)))
  · rcases h z hz with h2 | h2
    · exact .inl (.inr (.inr (.inr ⟨z, h2, h1⟩)))
    · exact .inr (h2 x h1)
theorem foot_trans {bs cs ds : List Nat} {N M : Nat} (h : ∀ x ∈ cs, x ∈ bs ∨ N ≤ x) (h' : ∀ x ∈ ds, x ∈ cs ∨ M ≤ x) (hM : N ≤ M) : ∀ x ∈ ds, x ∈ bs ∨ N ≤ x := fun x hx => by
  rcases h' x hx with h1 | h1
  · exact h x h1
  · exact .inr (by omega)
/-- Where the loop stands behind one write more. -/
theorem do_next {w wr w1 w2 : World} {B s d g mb n : Nat} {L0 L' L'' : List GV} {Lk Lk' : List PP} {k : Nat} (hS : StoAt wr B s d g mb ⟨Lk, n⟩ L') (h1 : Ext wr w1) (hM : MapV w2 mb L'') (hk : Keep [mb] w1 w2) (hKp : Keep [mb] w wr) (hft : ∀ x ∈ sfoot s g mb L', x ∈ sfoot s g mb L0 ∨ w.heap.size ≤ x) (hLl : L'.length ≤ L0.length + k)
    (hv : ∀ z ∈ L'', z ∈ L' ∨ (z.Ok w1 wr.heap.size)) (hB : B ≤ wr.heap.size) (hls : Lk' = L''.map GV.pp) (hlen : L''.length ≤ L'.length + 1) :
    Hid (StoAt w2 B s d g mb ⟨Lk', n⟩ L'') ∧ Hid (Keep [mb] w w2) ∧ Hid (∀ x ∈ sfoot s g mb L'', x ∈ sfoot s g mb L0 ∨ w.heap.size ≤ x) ∧ Hid (L''.length ≤ L0.length + (k + 1)) := by
  have hs := hS.row.lt
  have hm := hS.map.lt
  have hz : ∀ z : GV, z.Ok w1 wr.heap.size → s ∉ z.bl ∧ mb ∉ z.bl := fun z hz => ⟨fun hx => by have := (hz.lt s hx).1; omega, fun hx => by have := (hz.lt mb hx).1; omega⟩
  refine ⟨Lib.hid ((hS.ext h1).upd hk hM (fun z hzm => (hv z hzm).imp id fun hzo => ⟨?_, hz z hzo⟩) hls rfl), Lib.hid (hKp.same ((Keep.of_ext (bs := [mb]) h1).same hk)), Lib.hid (foot_trans hft (sfoot_sub fun z hzm => (hv z hzm).imp id fun hzo x hx => (hzo.lt x hx).1) hKp.size), Lib.hid (by omega)⟩
  have hzo' := hzo.keep hk fun x hx hm => by rw [List.mem_singleton.1 hm] at hx; exact (hz z hzo).2 hx
  exact ⟨own_base hzo'.own hB, hzo'.kb, hzo'.vb⟩
set_option maxRecDepth 4000 in
set_option maxHeartbeats 6400000 in
theorem do_any (B s d g mb : Nat) (K : KS) (L : List GV) (A : Option Addr) (c : Nat) (W : List WV) (w : World) (h : StoAt w B s d g mb K L) (hW : WsAt w A W) (ha : WsAp A W [s, mb]) (hn : W.length ≤ 1048576) (hL : L.length ≤ 1099511627776) (hK : K.n < 9223372036854775807) :
    Calls Tryz.prog 37 #[.pointer (some ⟨s, 0, none⟩), .slice A W.length c] w fun e w' => e = .returned (.tuple #[]) ∧ ∃ L', StoAt w' B s d g mb (doB K (W.map WV.pw)) L' ∧ Keep [s, mb] w w' ∧ (∀ x ∈ sfoot s g mb L', x ∈ sfoot s g mb L ∨ w.heap.size ≤ x) ∧ L'.length ≤ L.length + W.length := by
  refine calls_hid fun G hG => ?_
  have hlt := h.row.lt
  have hmlt := h.map.lt
  have hmg := h.sep
  go_enter Tryz.func37, Tryz.ntmps37
  go_wp2
  go_loopw [5, 8] (fun _ i wr => ∃ (k : Nat) (L' : List GV), k ≤ W.length ∧ i = .int .i64 k ∧ Hid (StoAt wr B s d g mb ⟨((W.take k).map WV.pw).foldl doW K.l, K.n⟩ L') ∧ Hid (Keep [mb] w wr) ∧ Hid (∀ x ∈ sfoot s g mb L', x ∈ sfoot s g mb L ∨ w.heap.size ≤ x) ∧ Hid (L'.length ≤ L.length + k)) (fun _ i _ => W.length - (intOf i).toNat)
  case atStart => exact ⟨0, L, Nat.zero_le _, rfl, Lib.hid (by simpa using h), Lib.hid (Keep.refl _ _), Lib.hid fun x hx => .inl hx, Lib.hid (Nat.le_refl _)⟩
  case round =>
    obtain ⟨k, L', hk, rfl, hS, hKp, hft, hLl⟩ := hrel
    have c2 : wr.cell? ⟨s, 2, none⟩ = some (.map (some mb)) := hS.out.row.cell (i := 2) (by simp)
    have c3 : wr.cell? ⟨s, 3, none⟩ = some (.int .i64 K.n) := hS.out.row.cell (i := 3) (by simp)
    have f3 := hS.out.row.fro 3
    by_cases hk' : k < W.length
    · obtain ⟨ad, rfl, p0, p1, p2⟩ := (hW.keep (ha.mono (by simp)) hKp.out).at hk'
      have hx := ((hW.keep (ha.mono (by simp)) hKp.out).ok _ (List.getElem_mem hk'))
      have hfold : ((W.take (k + 1)).map WV.pw).foldl doW K.l = doW (((W.take k).map WV.pw).foldl doW K.l) W[k].pw := by
        rw [List.take_succ_eq_append_getElem hk', List.map_append, List.foldl_append]
        rfl
      generalize W[k] = x at *
      generalize ((W.take k).map WV.pw).foldl doW K.l = Lk at *
      replace hfold := Lib.hid hfold
      have hxe := ext_alloc wr (.cells #[.string x.k, .slice x.A x.v.length x.c, .bool x.d] 45)
      have hS1 := hS.out.ext hxe
      have m2 : (wr.alloc (.cells #[.string x.k, .slice x.A x.v.length x.c, .bool x.d] 45)).cell? ⟨s, 2, none⟩ = some (.map (some mb)) := hS1.row.cell (i := 2) (by simp)
      have hM := hS1.map
      have hks : x.k.size ≤ 281474976710656 := by have := hx.kb; omega
      replace hS1 := Lib.hid hS1
      have hBw : B ≤ wr.heap.size := Nat.le_trans (Nat.le_of_lt (Nat.lt_of_le_of_lt hS.out.ge.1 hS.out.row.lt)) (Nat.le_refl _)
      have hls := hS.out.ls
      have hrd0 := hx.rd
      have hnl := hx.nl
      have hvb := hx.vb
      have hkb := hx.kb
      rcases hd : x.d with _ | _
      · rw [hd] at p2 hxe hS1 m2 hM
        have hC : ∀ w1, Ext wr w1 → Calls Tryz.prog 50 #[.slice x.A x.v.length x.c] w1 fun e w'' => ∃ v, e = .returned v ∧ RetB w1 x.v.length x.v v w'' := fun w1 hw => clone_any x.A x.v.length x.c x.v w1 rfl (hrd0.ext hw) (fun e => ⟨by rw [e] at hrd0; exact (nil_of_none hrd0 rfl).1, hnl e⟩) (by omega)
        have b0 : (wr.alloc (.cells #[.string x.k, .slice x.A x.v.length x.c, .bool false] 45)).cell? ⟨wr.heap.size, 0, none⟩ = some (.string x.k) := (Row.alloc wr [.string x.k, .slice x.A x.v.length x.c, .bool false] 45).cell (i := 0) (by simp)
        have hLm : L'.length < maxLen := by have := hLl.out; unfold maxLen; omega
        replace hd := Lib.hid hd
        replace hls := Lib.hid hls
        replace hx := Lib.hid hx
        replace hrd0 := Lib.hid hrd0
        replace hnl := Lib.hid hnl
        go_wp2
        go_region_law (go_simp; go_at_call 50; ((with_reducible refine (hC _ (hxe.trans (ext_drew _))).mono ?_); rintro e w2 ⟨v, rfl, A2, c2', rfl, hx2, ho2, hc2, hm2, hr2⟩; obtain ⟨q, hq1, hq2⟩ := gv_of ho2 x.k.data.toList; have hxx := (ext_drew (wr.alloc (.cells #[.string x.k, .slice x.A x.v.length x.c, .bool false] 45))).trans hx2; have m2' := hxx.cell m2; have b0' := hxx.cell b0; obtain ⟨w3, hst, hM3, hk3⟩ := (hM.keep (Keep.of_ext (bs := []) hxx) (by simp)).store (s := x.k) (by unfold maxLen; omega) hLm ⟨x.k.data.toList, q, c2', x.v⟩ rfl; rw [hq1] at hst))
        all_goals
          have hnx := do_next (L'' := setV ⟨x.k.data.toList, q, c2', x.v⟩ L') (Lk' := doW Lk x.pw) hS.out (hxe.trans hxx) hM3 hk3 hKp.out hft.out hLl.out (fun z hz => (setV_mem hz).symm.imp id fun e => by subst e; exact ⟨by rw [hq1]; exact own_base ho2 (hxe.trans (ext_drew _)).size, by show x.k.data.toList.length ≤ _; rw [Array.length_toList]; exact hkb, hvb⟩) hBw (by show (if x.pw.d then _ else _) = _; rw [if_neg (by show ¬ x.d = true; rw [hd.out]; simp), setV_pp, ← hls.out]; rfl) (setV_len _ _)
          go_wp2
          go_roundw
          case rel => exact ⟨k + 1, _, hk', by go_num, by rw [hfold.out]; exact hnx.1, hnx.2.1, hnx.2.2.1, hnx.2.2.2⟩
          case measure => simp [intOf]; omega
      · rw [hd] at p2 hxe hS1 m2 hM
        replace hd := Lib.hid hd
        replace hls := Lib.hid hls
        go_wp2
        go_region_law (refine step_dropV rfl (.tmp 17) (.tmp 19) rfl mb L' (by simp [Act.eval, Act.put]) (hM.keep (Keep.of_ext (bs := []) (ext_drew _)) (by simp)) x.k (by simp [Act.eval, Act.put]) hks ?_; intro w2 hM2 hk2)
        all_goals
          have hnx := do_next (L'' := L'.filter fun z => !(z.k == x.k.data.toList)) (Lk' := doW Lk x.pw) hS.out (hxe.trans (ext_drew _)) hM2 hk2 hKp.out hft.out hLl.out (fun z hz => .inl (List.mem_filter.1 hz).1) hBw (by show (if x.pw.d then _ else _) = _; rw [if_pos (by show x.d = true; exact hd.out), filter_pp, ← hls.out]; rfl) (Nat.le_succ_of_le (List.length_filter_le _ _))
          go_wp2
          go_roundw
          case rel => exact ⟨k + 1, _, hk', by go_num, by rw [hfold.out]; exact hnx.1, hnx.2.1, hnx.2.2.1, hnx.2.2.2⟩
          case measure => simp [intOf]; omega
    · obtain rfl : k = W.length := by omega
      rw [List.take_length] at hS
      have hk3 := Keep.setCell wr ⟨s, 3, none⟩ (.int .i64 ((K.n + 1 : Nat) : Int))
      have hfin : StoAt (wr.setCell ⟨s, 3, none⟩ (.int .i64 ((K.n + 1 : Nat) : Int))) B s d g mb (doB K (W.map WV.pw)) L' := by
        have h0 := hS.out
        refine ⟨h0.row.set 3 _, h0.map.keep hk3 (by simpa using fun e => hmg.1 e.symm), fun z hz => (h0.val z hz).keep hk3 fun x hx hm => by have := List.mem_singleton.1 hm; subst this; exact (h0.sep.2.2.2 z hz).1 hx, h0.log.keep hk3 (by simpa using fun e => hmg.2.1 e.symm), h0.ls, h0.sep, h0.ge⟩
      have hgg := hG.out (.returned (.tuple #[])) _ ⟨rfl, L', hfin, (hKp.out.mono (by simp)).same (hk3.mono (by simp)), hft.out, hLl.out⟩
      rw [show ((K.n + 1 : Nat) : Int) = (K.n : Int) + 1 from by omega] at hgg
      replace hgg := Lib.hid hgg
      clear hG hfin hS hft hLl hW ha hk3
      generalize K.n = kn at *
      go_wp2
      go_end0
      exact hgg.out
end Go.Proofs.YtjnbbfhoegeppaaGreatDoor
end
