/-
  A slice of numbers that came in, as a list.
-/
import Derived.Test.YtjnbbfhoegeppaaGreatDoorMArgs
set_option linter.unusedSimpArgs false
set_option linter.unusedVariables false
namespace Go.Cv
open Go.ChangeShapes Go.WideShapes Go.ChangeAt Go.RowKit Go.Deep
/-- A slice of numbers that came in. -/
structure ArgI (w : World) (A : Option Addr) (n cap : Nat) (l : List Int) : Prop where
  len : l.length = n
  le : n ≤ cap
  max : cap ≤ maxLen
  rd : Rd w A (l.map (Value.int .i64))
  wf : ∀ z ∈ l, (Lit.int .i64 z).wf = true
theorem argI_of {w : World} {x : Addr} {n cap : Nat} {zs : List Int} (hl : n ≤ cap) (hm : cap ≤ maxLen) (hz : zs.length = cap) (hc : ∀ i, i < zs.length → w.cell? (x.add i) = some (.int .i64 (zs.getD i 0))) (hw : ∀ n ∈ zs, (Lit.int .i64 n).wf = true) :
    ArgI w (some x) n cap (zs.take n) := by
  refine ⟨by simp; omega, hl, hm, fun k v hv => ?_, fun z hz => hw z (List.mem_of_mem_take hz)⟩
  rw [List.getElem?_map] at hv
  rcases hk : (zs.take n)[k]? with _ | z
  · rw [hk] at hv; cases hv
  · rw [hk] at hv
    injection hv with hv
    rw [List.getElem?_take] at hk
    split at hk
    · have hlt : k < zs.length := by
        rcases Nat.lt_or_ge k zs.length with h0 | h0
        · exact h0
        · rw [List.getElem?_eq_none h0] at hk; cases hk
      have hz2 : zs[k] = z := by rw [List.getElem?_eq_getElem hlt] at hk; injection hk
      refine ⟨x, rfl, ?_⟩
      rw [hc k hlt, ← hv]
      have : zs.getD k 0 = z := by simp [List.getD, List.getElem?_eq_getElem hlt, hz2]
      rw [this]
    · cases hk
section
variable {H : Type} {enc : TypeId × Value → H} {P : Program} {w : World} {base : Nat} {held : Bool}
theorem argI_open {t e : TypeId} {fuel : Nat} {A : Option Addr} {n cap : Nat} {x : DataW H × List MemPlace} (ht : P.underlying t = some (.slice e)) (he : P.underlying e = some (.int .i64)) (hc : P.cellsOf e = 1)
    (h : DataW.trod enc P w base (fun _ => true) held fuel t (Value.slice A n cap).cells.toList = some x) :
    ∃ l, ArgI w A n cap l ∧ ((x.1 = .nil ∧ cap = 0) ∨ ∃ es sp, x.1 = .slice es sp ∧ es.length = n ∧ es.length + sp.length = cap) := by
  rcases open_ints ht he hc h with ⟨hcs, hx⟩ | ⟨a, l, c, zs, hcs, _, hl, hm, hz, hx, hcell, hwz⟩
  · simp [Value.cells] at hcs
    obtain ⟨rfl, rfl, rfl⟩ := hcs
    exact ⟨[], ⟨rfl, Nat.le_refl _, Nat.zero_le _, Rd.nil_, fun _ h => by cases h⟩, .inl ⟨by rw [hx], rfl⟩⟩
  · simp [Value.cells] at hcs
    obtain ⟨rfl, rfl, rfl⟩ := hcs
    have hz' : zs.length = cap := by simpa using hz
    refine ⟨_, argI_of hl hm hz' hcell hwz, .inr ⟨_, _, by rw [hx], by simp [lits]; omega, by simp [lits]; omega⟩⟩
end
end Go.Cv
