/-
  Arguments that came in, as lists: what the readings of the rows give to the walks.
-/
import Derived.Test.YtkoineooofmehaaRows
import Derived.Test.YtkoineooofmehaaLib
import Derived.ProofKit
import Derived.OpenShut
import Derived.ShutString
import Derived.ChangeOld
import Derived.SizedLaws
import Derived.JoinedCond
import Derived.Deep.Slices
set_option linter.unusedSimpArgs false
set_option linter.unusedVariables false
namespace Go.Cv
open Go.ChangeShapes Go.WideShapes Go.ChangeAt Go.RowKit

/-- A slice of bytes that came in. -/
structure ArgB (w : World) (A : Option Addr) (n cap : Nat) (l : List UInt8) : Prop where
  len : l.length = n
  le : n ≤ cap
  max : cap ≤ maxLen
  rd : Rd w A (l.map bv)

theorem wf_u8_bd {n : Int} (h : (Lit.int .u8 n).wf = true) : 0 ≤ n ∧ n < 256 := by
  simp [Lit.wf, IntKind.min, IntKind.max, IntKind.signed, IntKind.bits] at h
  omega
theorem n8_u8_in {n : Int} (h : 0 ≤ n ∧ n < 256) : n8 (u8 n) = n := by rw [n8_u8]; omega

theorem argB_of {w : World} {x : Addr} {n cap : Nat} {zs : List Int} (hl : n ≤ cap) (hm : cap ≤ maxLen) (hz : zs.length = cap) (hc : ∀ i, i < zs.length → w.cell? (x.add i) = some (.int .u8 (zs.getD i 0))) (hw : ∀ n ∈ zs, (Lit.int .u8 n).wf = true) :
    ArgB w (some x) n cap ((zs.take n).map u8) := by
  refine ⟨by simp; omega, hl, hm, fun k v hv => ?_⟩
  rw [List.map_map, List.getElem?_map] at hv
  rcases hk : (zs.take n)[k]? with _ | z
  · rw [hk] at hv; cases hv
  · rw [hk] at hv
    injection hv with hv
    rw [List.getElem?_take] at hk
    split at hk
    · have hlt : k < zs.length := by
        rcases Nat.lt_or_ge k zs.length with h0 | h0
        · exact h0
        · rw [List.getElem?_eq_none h0] at hk; cases hk
      have hz2 : zs[k] = z := by rw [List.getElem?_eq_getElem hlt] at hk; injection hk
      refine ⟨x, rfl, ?_⟩
      rw [hc k hlt, ← hv]
      have hmem : z ∈ zs := hz2 ▸ List.getElem_mem hlt
      have : zs.getD k 0 = z := by simp [List.getD, List.getElem?_eq_getElem hlt, hz2]
      rw [this]
      show some (Value.int .u8 z) = some (Value.int .u8 (n8 (u8 z)))
      rw [n8_u8_in (wf_u8_bd (hw z hmem))]
    · cases hk

section
variable {H : Type} {enc : TypeId × Value → H} {P : Program} {w : World} {base : Nat} {held : Bool}
theorem argB_open {t e : TypeId} {fuel : Nat} {A : Option Addr} {n cap : Nat} {x : DataW H × List MemPlace} (ht : P.underlying t = some (.slice e)) (he : P.underlying e = some (.int .u8)) (hc : P.cellsOf e = 1)
    (h : DataW.trod enc P w base (fun _ => true) held fuel t (Value.slice A n cap).cells.toList = some x) :
    ∃ l, ArgB w A n cap l ∧ ((x.1 = .nil ∧ cap = 0) ∨ ∃ es sp, x.1 = .slice es sp ∧ es.length = n ∧ es.length + sp.length = cap) := by
  rcases open_ints ht he hc h with ⟨hcs, hx⟩ | ⟨a, l, c, zs, hcs, _, hl, hm, hz, hx, hcell, hwz⟩
  · simp [Value.cells] at hcs
    obtain ⟨rfl, rfl, rfl⟩ := hcs
    exact ⟨[], ⟨rfl, Nat.le_refl _, Nat.zero_le _, Rd.nil_⟩, .inl ⟨by rw [hx], rfl⟩⟩
  · simp [Value.cells] at hcs
    obtain ⟨rfl, rfl, rfl⟩ := hcs
    have hz' : zs.length = cap := by simpa using hz
    refine ⟨_, argB_of hl hm hz' hcell hwz, .inr ⟨_, _, by rw [hx], by simp [lits]; omega, by simp [lits]; omega⟩⟩
end
end Go.Cv
