/-
  Arguments that came in, as lists: what the readings of the rows give to the walks.
-/
import Derived.Test.YtjnbbfhoegeppaaGreatDoorRows
import Derived.Test.YtjnbbfhoegeppaaGreatDoorMKern
import Derived.ProofKit
import Derived.OpenShut
import Derived.ShutString
import Derived.ChangeOld
import Derived.SizedLaws
import Derived.JoinedCond
import Derived.Deep.Slices
import Derived.Deep.Matrix
set_option linter.unusedSimpArgs false
set_option linter.unusedVariables false
namespace Go.Cv
open Go.ChangeShapes Go.WideShapes Go.ChangeAt Go.RowKit Go.Deep

/-- A slice of bytes that came in. -/
structure ArgB (w : World) (A : Option Addr) (n cap : Nat) (l : List UInt8) : Prop where
  len : l.length = n
  le : n ≤ cap
  max : cap ≤ maxLen
  rd : Rd w A (l.map bv)

theorem wf_u8_bd {n : Int} (h : (Lit.int .u8 n).wf = true) : 0 ≤ n ∧ n < 256 := by
  simp [Lit.wf, IntKind.min, IntKind.max, IntKind.signed, IntKind.bits] at h
  omega
theorem n8_u8_in {n : Int} (h : 0 ≤ n ∧ n < 256) : n8 (u8 n) = n := by rw [n8_u8]; omega

theorem argB_of {w : World} {x : Addr} {n cap : Nat} {zs : List Int} (hl : n ≤ cap) (hm : cap ≤ maxLen) (hz : zs.length = cap) (hc : ∀ i, i < zs.length → w.cell? (x.add i) = some (.int .u8 (zs.getD i 0))) (hw : ∀ n ∈ zs, (Lit.int .u8 n).wf = true) :
    ArgB w (some x) n cap ((zs.take n).map u8) := by
  refine ⟨by simp; omega, hl, hm, fun k v hv => ?_⟩
  rw [List.map_map, List.getElem?_map] at hv
  rcases hk : (zs.take n)[k]? with _ | z
  · rw [hk] at hv; cases hv
  · rw [hk] at hv
    injection hv with hv
    rw [List.getElem?_take] at hk
    split at hk
    · have hlt : k < zs.length := by
        rcases Nat.lt_or_ge k zs.length with h0 | h0
        · exact h0
        · rw [List.getElem?_eq_none h0] at hk; cases hk
      have hz2 : zs[k] = z := by rw [List.getElem?_eq_getElem hlt] at hk; injection hk
      refine ⟨x, rfl, ?_⟩
      rw [hc k hlt, ← hv]
      have hmem : z ∈ zs := hz2 ▸ List.getElem_mem hlt
      have : zs.getD k 0 = z := by simp [List.getD, List.getElem?_eq_getElem hlt, hz2]
      rw [this]
      show some (Value.int .u8 z) = some (Value.int .u8 (n8 (u8 z)))
      rw [n8_u8_in (wf_u8_bd (hw z hmem))]
    · cases hk

/-- A slice of slices of bytes that came in. -/
structure ArgBB (w : World) (A : Option Addr) (n cap : Nat) (R : List (List UInt8)) : Prop where
  len : R.length = n
  le : n ≤ cap
  max : cap ≤ maxLen
  rows : ∃ vs, Rd w A vs ∧ AllB (fun _ _ => True) w vs R
theorem AllB.of_get {S : World → Addr → Prop} {w : World} : ∀ {vs : List Value} {rs : List (List UInt8)}, vs.length = rs.length → (∀ k (h1 : k < vs.length) (h2 : k < rs.length), IsB S w vs[k] rs[k]) → AllB S w vs rs
  | [], [], _, _ => trivial
  | v :: vs, r :: rs, hl, h => ⟨h 0 (by simp) (by simp), AllB.of_get (by simpa using hl) fun k h1 h2 => h (k + 1) (by simpa using h1) (by simpa using h2)⟩
  | [], r :: rs, hl, _ => by simp at hl
  | v :: vs, [], hl, _ => by simp at hl

section
variable {H : Type} {enc : TypeId × Value → H} {P : Program} {w : World} {base : Nat} {held : Bool}
theorem argB_open {t e : TypeId} {fuel : Nat} {A : Option Addr} {n cap : Nat} {x : DataW H × List MemPlace} (ht : P.underlying t = some (.slice e)) (he : P.underlying e = some (.int .u8)) (hc : P.cellsOf e = 1)
    (h : DataW.trod enc P w base (fun _ => true) held fuel t (Value.slice A n cap).cells.toList = some x) :
    ∃ l, ArgB w A n cap l ∧ ((x.1 = .nil ∧ cap = 0) ∨ ∃ es sp, x.1 = .slice es sp ∧ es.length = n ∧ es.length + sp.length = cap) := by
  rcases open_ints ht he hc h with ⟨hcs, hx⟩ | ⟨a, l, c, zs, hcs, _, hl, hm, hz, hx, hcell, hwz⟩
  · simp [Value.cells] at hcs
    obtain ⟨rfl, rfl, rfl⟩ := hcs
    exact ⟨[], ⟨rfl, Nat.le_refl _, Nat.zero_le _, Rd.nil_⟩, .inl ⟨by rw [hx], rfl⟩⟩
  · simp [Value.cells] at hcs
    obtain ⟨rfl, rfl, rfl⟩ := hcs
    have hz' : zs.length = cap := by simpa using hz
    refine ⟨_, argB_of hl hm hz' hcell hwz, .inr ⟨_, _, by rw [hx], by simp [lits]; omega, by simp [lits]; omega⟩⟩
theorem argBB_open {t e q : TypeId} {fuel : Nat} {A : Option Addr} {n cap : Nat} {x : DataW H × List MemPlace} (ht : P.underlying t = some (.slice e)) (he : P.underlying e = some (.slice q)) (hq : P.underlying q = some (.int .u8))
    (ce : P.cellsOf e = 1) (cq : P.cellsOf q = 1) (h : DataW.trod enc P w base (fun _ => true) held fuel t (Value.slice A n cap).cells.toList = some x) :
    ∃ R, ArgBB w A n cap R ∧ ((x.1 = .nil ∧ n = 0) ∨ ∃ es sp, x.1 = .slice es sp ∧ es.length = n ∧ ∀ k (h : k < n), (es[k]? = some .nil ∧ (R.getD k []).length = 0) ∨ ∃ fs sp', es[k]? = some (.slice fs sp') ∧ fs.length = (R.getD k []).length) := by
  rcases open_int_rows ht he hq ce cq h with ⟨hcs, hx⟩ | ⟨a, len, cap', AA, L, C, Z, hcs, _, hl, hm, hx, hrow⟩
  · simp [Value.cells] at hcs
    obtain ⟨rfl, rfl, rfl⟩ := hcs
    exact ⟨[], ⟨rfl, Nat.le_refl _, Nat.zero_le _, [], Rd.nil_, trivial⟩, .inl ⟨by rw [hx], rfl⟩⟩
  · simp [Value.cells] at hcs
    obtain ⟨rfl, rfl, rfl⟩ := hcs
    have hB : ∀ r, r < cap → ArgB w (AA r) (L r) (C r) (((Z r).take (L r)).map u8) := by
      intro r hr
      obtain ⟨_, h2, h3, h4, h5, h6, h7⟩ := hrow r hr
      rcases ha : AA r with _ | ad
      · have hc0 := h6 ha
        have hz : Z r = [] := List.eq_nil_of_length_eq_zero (by omega)
        rw [hz]
        exact ⟨by simp; omega, h2, h3, by simpa using Rd.nil_⟩
      · exact argB_of h2 h3 h4 (fun i hi => (h7 ad ha).2 i (by omega)) h5
    refine ⟨(List.range n).map fun r => ((Z r).take (L r)).map u8, ⟨by simp, hl, hm, (List.range n).map fun r => Value.slice (AA r) (L r) (C r), ?_, ?_⟩, .inr ⟨_, _, by rw [hx], by simp, ?_⟩⟩
    · intro k v hv
      rw [List.getElem?_map] at hv
      rcases hk : (List.range n)[k]? with _ | r
      · rw [hk] at hv; cases hv
      · rw [hk] at hv
        injection hv with hv
        obtain ⟨hlt, hr⟩ := List.getElem?_eq_some_iff.1 hk
        simp at hlt hr
        subst hr
        exact ⟨a, rfl, by rw [← hv]; exact (hrow k (by omega)).1⟩
    · refine AllB.of_get (by simp) fun k h1 h2 => ?_
      simp only [List.getElem_map, List.getElem_range]
      have hk : k < cap := by simp at h1; omega
      have := hB k hk
      exact ⟨AA k, L k, C k, rfl, this.len, this.le, this.max, this.rd, fun _ _ => trivial⟩
    · intro k hk
      have hB' := (hB k (by omega)).len
      rcases ha : AA k with _ | ad
      · refine .inl ⟨by simp [hk, intRow, ha], ?_⟩
        have hc0 := (hrow k (by omega)).2.2.2.2.2.1 ha
        have hz : Z k = [] := List.eq_nil_of_length_eq_zero (by have := (hrow k (by omega)).2.2.2.1; omega)
        simp [hk, hz]
      · refine .inr ⟨lits .u8 ((Z k).take (L k)), _, by simp [hk, intRow, ha]; rfl, by simp [hk, lits]⟩
end
end Go.Cv
