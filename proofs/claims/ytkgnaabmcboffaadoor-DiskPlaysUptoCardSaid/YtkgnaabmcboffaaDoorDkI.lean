/-
  Two rows of bytes alike; which of some things a number speaks of.
-/
import Derived.Test.YtkgnaabmcboffaaDoorDkO
set_option linter.unusedSimpArgs false
set_option linter.unusedVariables false
namespace Go.Proofs.YtkgnaabmcboffaaDoor
open Go.RowKit Go.Cv Go.Cv.Dk
set_option maxHeartbeats 800000 in
theorem same10_any (A : Option Addr) (n c : Nat) (l : List UInt8) (B : Option Addr) (m d : Nat) (k : List UInt8) (w : World) (hl : l.length = n) (hr : Rd w A (l.map bv)) (hk : k.length = m) (hr2 : Rd w B (k.map bv)) :
    Calls Tryd.prog 13 #[.slice A n c, .slice B m d] w fun e w' => e = .returned (.bool (decide (l = k))) ∧ w = w' := by
  have hL := Lib.hid hl
  have hK := Lib.hid hk
  obtain ⟨r, hres⟩ : ∃ r, r = decide (l = k) := ⟨_, rfl⟩
  rw [← hres]
  have hrx := Lib.hid hres
  clear hl hk hres
  go_enter Tryd.func13, Tryd.ntmps13
  have hcv1 := run_convert_rd (P := Tryd.prog) w 22 9 5 Tryd.underlying22 Tryd.underlying5 Tryd.underlying9 A n c l hL.out hr
  have hcv2 := run_convert_rd (P := Tryd.prog) w 22 9 5 Tryd.underlying22 Tryd.underlying5 Tryd.underlying9 B m d k hK.out hr2
  go_wp2
  go_ret
  refine ⟨?_, rfl⟩
  have hb : (l == k) = r := by
    rw [hrx.out]
    by_cases e : l = k
    · subst e; simp
    · simp [e]
  exact congrArg (fun b => Ending.returned (Value.bool b)) hb
/-- Which of m things a number speaks of. -/
def pickI (c m : Int) : Int := (if c < 0 then -(c + 1) else c) % m
set_option maxHeartbeats 800000 in
theorem pick_any (c m : Int) (w : World) (hc : -9223372036854775808 ≤ c ∧ c ≤ 9223372036854775807) (hm : 0 < m) :
    Calls Tryd.prog 10 #[.int .i64 c, .int .i64 m] w fun e w' => e = .returned (.int .i64 (pickI c m)) ∧ w = w' := by
  have hm0 : ¬ (m = 0) := by omega
  by_cases h0 : c < 0
  · have e : pickI c m = -((c + 1).tmod m) := by unfold pickI; rw [if_pos h0, ← Int.tmod_eq_emod_of_nonneg (by omega), Int.neg_tmod]
    rw [e]
    have hw1 : IntKind.i64.wrap (c + 1) = c + 1 := IntWalk.i64_in _ (by omega)
    have hw2 : IntKind.i64.wrap (-(c + 1)) = -(c + 1) := IntWalk.i64_in _ (by omega)
    clear e
    go_enter Tryd.func10, Tryd.ntmps10
    go_wp2
    go_ret
    exact ⟨rfl, rfl⟩
  · have e : pickI c m = c % m := by unfold pickI; rw [if_neg h0]
    rw [e]
    clear e
    go_enter Tryd.func10, Tryd.ntmps10
    go_wp2
    go_ret
    exact ⟨rfl, rfl⟩
theorem pickI_bd {c m : Int} (hm : 0 < m) : 0 ≤ pickI c m ∧ pickI c m < m := ⟨Int.emod_nonneg _ (by omega), Int.emod_lt_of_pos _ hm⟩
end Go.Proofs.YtkgnaabmcboffaaDoor
