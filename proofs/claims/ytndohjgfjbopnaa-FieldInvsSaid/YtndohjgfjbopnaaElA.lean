/-
  Walks of the element's functions: a small number added; sums.
-/
import Derived.Test.YtndohjgfjbopnaaEl64
import Derived.Test.YtndohjgfjbopnaaMore
import Derived.Deep.QuietTactic
import Derived.BigQuiet
import Derived.StillTailTactics
import Derived.Deep.RegionWith
import Derived.Deep.LoopGhost
import Derived.LoopN
set_option linter.unusedSimpArgs false
set_option linter.unusedVariables false
namespace Go.Cv
/-- Four words as a number. -/
def val4 (a b c d : UInt64) : Nat := a.toNat + 18446744073709551616 * (b.toNat + 18446744073709551616 * (c.toNat + 18446744073709551616 * d.toNat))
theorem val4_lt (a b c d : UInt64) : val4 a b c d < 2 ^ 256 := by
  have := a.toNat_lt; have := b.toNat_lt; have := c.toNat_lt; have := d.toNat_lt
  unfold val4; omega
/-- Alike modulo 2^255 - 19. -/
@[reducible] def Eqp (a b : Nat) : Prop := a % (2 ^ 255 - 19) = b % (2 ^ 255 - 19)
@[reducible] def w4 (a b c d : UInt64) : Array Value := #[.int .u64 (n64 a), .int .u64 (n64 b), .int .u64 (n64 c), .int .u64 (n64 d)]
@[reducible] def el (a b c d : UInt64) : Value := .agg (w4 a b c d)
end Go.Cv
namespace Go.Proofs.Ytndohjgfjbopnaa
open Go.RowKit Go.Cv

set_option maxHeartbeats 400000 in
theorem more_any (a b c d n : UInt64) (w : World) :
    Calls Try.prog 90 #[el a b c d, .int .u64 (n64 n)] w fun e w' => ∃ s0 s1 s2 s3 k, e = .returned (.tuple #[el s0 s1 s2 s3, .int .u64 (n64 (bc k))]) ∧
      val4 s0 s1 s2 s3 + 2 ^ 256 * bn k = val4 a b c d + n.toNat ∧ Ext w w' := by
  go_enter Try.func90, Try.ntmps90
  go_wp2_with (first | simp only [add64_c0] | simp only [add64_y0])
  refine bodyPost_ret_by (by simp [results, Try.results90, go_sem]; rfl) rfl ?_
  refine ⟨_, _, _, _, _, rfl, ?_, (ext_alloc _ _).trans (ext_alloc _ _)⟩
  have h0 := adc_law a n false
  have h1 := adc_law b 0 (adcC a n false)
  have h2 := adc_law c 0 (adcC b 0 (adcC a n false))
  have h3 := adc_law d 0 (adcC c 0 (adcC b 0 (adcC a n false)))
  have z : (0 : UInt64).toNat = 0 := rfl
  have f : bn false = 0 := rfl
  unfold val4
  omega
theorem more_38 (a b c d : UInt64) (w : World) :
    Calls Try.prog 90 #[el a b c d, .int .u64 38] w fun e w' => ∃ s0 s1 s2 s3 k, e = .returned (.tuple #[el s0 s1 s2 s3, .int .u64 (n64 (bc k))]) ∧
      val4 s0 s1 s2 s3 + 2 ^ 256 * bn k = val4 a b c d + 38 ∧ Ext w w' := more_any a b c d 38 w
theorem more_19 (a b c d : UInt64) (w : World) :
    Calls Try.prog 90 #[el a b c d, .int .u64 19] w fun e w' => ∃ s0 s1 s2 s3 k, e = .returned (.tuple #[el s0 s1 s2 s3, .int .u64 (n64 (bc k))]) ∧
      val4 s0 s1 s2 s3 + 2 ^ 256 * bn k = val4 a b c d + 19 ∧ Ext w w' := more_any a b c d 19 w

theorem fold38 {x y k : Nat} (h : y + 2 ^ 256 * k = x) : Eqp (y + 38 * k) x := by
  subst h
  unfold Eqp
  omega

set_option maxHeartbeats 400000 in
theorem add_any (a b c d a' b' c' d' : UInt64) (w : World) :
    Calls Try.prog 67 #[el a b c d, el a' b' c' d'] w fun e w' => ∃ s0 s1 s2 s3, e = .returned (el s0 s1 s2 s3) ∧
      Eqp (val4 s0 s1 s2 s3) (val4 a b c d + val4 a' b' c' d') ∧ Ext w w' := by
  go_enter Try.func67, Try.ntmps67
  go_wp2_with (first | simp only [add64_c0] | simp only [add64])
  go_loopg [5] 2 (fun g k wr => ∃ (s0 s1 s2 s3 : UInt64) (q : Bool) (l : Nat × Array Obj), k = .int .u64 (n64 (bc q)) ∧
    wr = grw (((w.alloc (.cells (w4 s0 s1 s2 s3) 73)).alloc (.cells (w4 a' b' c' d') 73)).alloc (.cells (w4 0 0 0 0) 73)) l ∧
    Eqp (val4 s0 s1 s2 s3 + 38 * bn q) (val4 a b c d + val4 a' b' c' d') ∧ (q = true → 1 ≤ g ∧ (g = 1 → val4 s0 s1 s2 s3 < 38)))
  case atStart =>
    refine ⟨_, _, _, _, _, _, rfl, grw_self _, ?_, fun _ => ⟨by decide, fun h => absurd h (by decide)⟩⟩
    have h0 := adc_law a a' false
    have h1 := adc_law b b' (adcC a a' false)
    have h2 := adc_law c c' (adcC b b' (adcC a a' false))
    have h3 := adc_law d d' (adcC c c' (adcC b b' (adcC a a' false)))
    have f : bn false = 0 := rfl
    refine fold38 ?_
    unfold val4
    omega
  case round =>
    obtain ⟨s0, s1, s2, s3, q, l, rfl, rfl, hv, hq⟩ := hrel
    cases q with
    | false =>
      have HV := Lib.hid hv
      clear hv hq
      go_wp2
      refine bodyPost_ret_by (by simp [results, Try.results67, go_sem]; rfl) rfl ?_
      exact ⟨_, _, _, _, rfl, HV.out, (((ext_alloc _ _).trans (ext_alloc _ _)).trans (ext_alloc _ _)).trans (grw_ext _ _)⟩
    | true =>
      have HV := Lib.hid hv
      have HQ := Lib.hid (hq rfl)
      clear hv hq
      go_wp2_with (go_at_call 90; with_reducible refine (more_38 _ _ _ _ _).mono ?_; rintro e w' ⟨t0, t1, t2, t3, q', rfl, ht, hx⟩; obtain ⟨l', rfl⟩ := grw_of_ext hx; clear hx)
      have hb := HQ.out
      have hv := HV.out
      have hl := val4_lt s0 s1 s2 s3
      go_roundg (gk - 1)
      case measure => omega
      case rel =>
        refine ⟨t0, t1, t2, t3, q', _, rfl, rfl, ?_, ?_⟩
        · refine (fold38 ht).trans ?_
          exact hv
        · intro hq'
          subst hq'
          have e1 : bn true = 1 := rfl
          by_cases hg : gk = 1
          · have := hb.2 hg
            omega
          · exact ⟨by omega, fun _ => by omega⟩
end Go.Proofs.Ytndohjgfjbopnaa
