/-
  Arguments of 32 bytes, and points as arguments.
-/
import Derived.Test.YtgeihelkkhjjaaaGreatDoorMGP
import Derived.WideShapes
set_option linter.unusedSimpArgs false
set_option linter.unusedVariables false
set_option maxRecDepth 20000
namespace Go.Proofs.YtgeihelkkhjjaaaGreatDoor
open Go.RowKit Go.Cv Go.Cv.Dig
theorem qrn {W : World} {r : Reach} {base : Nat} {v : Value} (hk : Cell.okWide Tryz.prog W r base 5 v) : ∃ n : Int, v = .int .u8 n ∧ 0 ≤ n ∧ n < 256 := by
 simp only [Cell.okWide, u5_] at hk
 cases v with
 | int k n =>
  simp only [Cell.ok, u5_] at hk
  obtain ⟨rfl, hn⟩ := hk
  refine ⟨n, rfl, ?_⟩
  simp [IntKind.has, IntKind.min, IntKind.max, IntKind.signed, IntKind.bits] at hn
  omega
 | _ => simp [Cell.ok, u5_] at hk
theorem arg32 {W : World} {r : Reach} {base : Nat} {v : Value} (h : Value.okWide Tryz.prog W r base 22 v) : ∃ f : Nat → UInt8, v = .agg (qab f) := by
 simp only [Value.okWide, u22] at h
 obtain ⟨cs, rfl, hs, ts, ht, _, hc⟩ := h
 have h32 : Tryz.prog.cellsOf 22 = 32 := by kernel_rfl
 have hts : Tryz.prog.cellTypes Tryz.prog.depth 22 = some (List.replicate 32 5) := by kernel_rfl
 rw [h32] at hs
 rw [hts] at ht
 injection ht with ht
 subst ht
 have key : ∀ i, i < 32 → ∃ n : Int, cs[i]? = some (.int .u8 n) ∧ 0 ≤ n ∧ n < 256 := by
  intro i hi
  have hg : cs[i]? = some (cs[i]'(by omega)) := Array.getElem?_eq_getElem (by omega)
  obtain ⟨u, hu, hk⟩ := hc i _ hg
  have hu5 : u = 5 := by
   rw [List.getElem?_replicate] at hu
   split at hu
   ·exact (Option.some.inj hu).symm
   ·cases hu
  rw [hu5] at hk
  obtain ⟨n, hn, h01⟩ := qrn hk
  exact ⟨n, by rw [hg, hn], h01⟩
 refine ⟨fun i => match cs[i]? with | some (.int _ n) => Cv.u8 n | _ => 0, ?_⟩
 refine congrArg Value.agg (Array.ext_getElem? fun i => ?_)
 by_cases hi : i < 32
 ·obtain ⟨n, hn, h0, h1⟩ := key i hi
  rw [qbd _ hi, hn]
  simp only
  rw [qkg]
  rw [Int.emod_eq_of_lt h0 h1]
 ·rw [Array.getElem?_eq_none (by omega), Array.getElem?_eq_none (by rw [qam]; omega)]
theorem argP {W : World} {r : Reach} {base : Nat} {v : Value} (h : Value.okWide Tryz.prog W r base 49 v) : ∃ f g : Nat → UInt8, v = .agg (pc f g) := by
 simp only [Value.okWide, Tryz.underlying49] at h
 obtain ⟨cs, rfl, hs, ts, ht, _, hc⟩ := h
 have h32 : Tryz.prog.cellsOf 49 = 64 := by kernel_rfl
 have hts : Tryz.prog.cellTypes Tryz.prog.depth 49 = some (List.replicate 64 5) := by kernel_rfl
 rw [h32] at hs
 rw [hts] at ht
 injection ht with ht
 subst ht
 have key : ∀ i, i < 64 → ∃ n : Int, cs[i]? = some (.int .u8 n) ∧ 0 ≤ n ∧ n < 256 := by
  intro i hi
  have hg : cs[i]? = some (cs[i]'(by omega)) := Array.getElem?_eq_getElem (by omega)
  obtain ⟨u, hu, hk⟩ := hc i _ hg
  have hu5 : u = 5 := by
   rw [List.getElem?_replicate] at hu
   split at hu
   ·exact (Option.some.inj hu).symm
   ·cases hu
  rw [hu5] at hk
  obtain ⟨n, hn, h01⟩ := qrn hk
  exact ⟨n, by rw [hg, hn], h01⟩
 refine ⟨fun i => match cs[i]? with | some (.int _ n) => Cv.u8 n | _ => 0, fun i => match cs[32 + i]? with | some (.int _ n) => Cv.u8 n | _ => 0, ?_⟩
 refine congrArg Value.agg (Array.ext_getElem? fun i => ?_)
 rw [qhw]
 by_cases hi : i < 32
 ·obtain ⟨n, hn, h0, h1⟩ := key i (by omega)
  rw [Array.getElem?_append_left (by rw [qam]; omega), qbd _ hi, hn]
  simp only
  rw [qkg]
  rw [Int.emod_eq_of_lt h0 h1]
 ·by_cases hi2 : i < 64
  ·obtain ⟨n, hn, h0, h1⟩ := key i hi2
   rw [Array.getElem?_append_right (by rw [qam]; omega), qam, qbd _ (by omega), show 32 + (i - 32) = i from by omega, hn]
   simp only
   rw [qkg]
   rw [Int.emod_eq_of_lt h0 h1]
  ·rw [Array.getElem?_eq_none (by omega), Array.getElem?_eq_none (by rw [Array.size_append, qam, qam]; omega)]
end Go.Proofs.YtgeihelkkhjjaaaGreatDoor
