/-
  Walks of the element's functions: squares again and again.
-/
import Derived.Test.YtndohjgfjbopnaaElC
set_option linter.unusedSimpArgs false
set_option linter.unusedVariables false
namespace Go.Cv
theorem Eqp.mul {a b c d : Nat} (h : Eqp a b) (k : Eqp c d) : Eqp (a * c) (b * d) := by
  unfold Eqp at *
  rw [Nat.mul_mod, h, k, ← Nat.mul_mod]
theorem Eqp.add {a b c d : Nat} (h : Eqp a b) (k : Eqp c d) : Eqp (a + c) (b + d) := by
  unfold Eqp at *
  rw [Nat.add_mod, h, k, ← Nat.add_mod]
theorem Eqp.refl (a : Nat) : Eqp a a := rfl
theorem Eqp.tr {a b c : Nat} (h : Eqp a b) (k : Eqp b c) : Eqp a c := Eq.trans h k
theorem Eqp.sy {a b : Nat} (h : Eqp a b) : Eqp b a := Eq.symm h
theorem sq_step {s t a m : Nat} (h : Eqp s (a ^ 2 ^ m)) (k : Eqp t (s * s)) : Eqp t (a ^ 2 ^ (m + 1)) := by
  refine k.tr ((h.mul h).tr ?_)
  rw [← Nat.pow_add, ← Nat.two_mul, Nat.pow_succ, Nat.mul_comm 2]
end Go.Cv
namespace Go.Proofs.Ytndohjgfjbopnaa
open Go.RowKit Go.Cv

set_option maxHeartbeats 400000 in
theorem squares_any (a b c d : UInt64) (n : Nat) (hn : n < 1000000) (w : World) :
    Calls Try.prog 89 #[el a b c d, .int .i64 n] w fun e w' => ∃ s0 s1 s2 s3, e = .returned (el s0 s1 s2 s3) ∧
      Eqp (val4 s0 s1 s2 s3) (val4 a b c d ^ 2 ^ n) ∧ Ext w w' := by
  go_enter Try.func89, Try.ntmps89
  go_wp2
  go_loopw [6] (fun i wr => ∃ (k : Nat) (s0 s1 s2 s3 : UInt64) (l : Nat × Array Obj), k ≤ n ∧ i = .int .i64 k ∧
    wr = grw ((w.alloc (.cells (w4 s0 s1 s2 s3) 73)).alloc (.cells (w4 0 0 0 0) 73)) l ∧
    Eqp (val4 s0 s1 s2 s3) (val4 a b c d ^ 2 ^ k)) (fun i _ => n - (intOf i).toNat)
  case atStart => exact ⟨0, a, b, c, d, _, Nat.zero_le _, rfl, grw_self _, by rw [Nat.pow_zero, Nat.pow_one]⟩
  case round =>
    obtain ⟨k, s0, s1, s2, s3, l, hk, rfl, rfl, hv⟩ := hrel
    have HV := Lib.hid hv
    clear hv
    by_cases hlt : k < n
    · go_wp2_with (go_at_call 70; with_reducible refine (mul_any _ _ _ _ _ _ _ _ _).mono ?_; rintro e w' ⟨t0, t1, t2, t3, rfl, ht, hx⟩; obtain ⟨l', rfl⟩ := grw_of_ext hx; clear hx)
      go_roundw
      case rel => exact ⟨k + 1, t0, t1, t2, t3, _, by omega, by go_num, rfl, sq_step HV.out ht⟩
      case measure => simp [intOf]; omega
    · go_wp2
      refine bodyPost_ret_by (by simp [results, Try.results89, go_sem]; rfl) rfl ?_
      have hkn : k = n := by omega
      subst hkn
      exact ⟨_, _, _, _, rfl, HV.out, ((ext_alloc _ _).trans (ext_alloc _ _)).trans (grw_ext _ _)⟩
theorem squares_2 (a b c d : UInt64) (w : World) :
    Calls Try.prog 89 #[el a b c d, .int .i64 2] w fun e w' => ∃ s0 s1 s2 s3, e = .returned (el s0 s1 s2 s3) ∧
      Eqp (val4 s0 s1 s2 s3) (val4 a b c d ^ 2 ^ 2) ∧ Ext w w' := squares_any a b c d 2 (by decide) w
theorem squares_5 (a b c d : UInt64) (w : World) :
    Calls Try.prog 89 #[el a b c d, .int .i64 5] w fun e w' => ∃ s0 s1 s2 s3, e = .returned (el s0 s1 s2 s3) ∧
      Eqp (val4 s0 s1 s2 s3) (val4 a b c d ^ 2 ^ 5) ∧ Ext w w' := squares_any a b c d 5 (by decide) w
theorem squares_10 (a b c d : UInt64) (w : World) :
    Calls Try.prog 89 #[el a b c d, .int .i64 10] w fun e w' => ∃ s0 s1 s2 s3, e = .returned (el s0 s1 s2 s3) ∧
      Eqp (val4 s0 s1 s2 s3) (val4 a b c d ^ 2 ^ 10) ∧ Ext w w' := squares_any a b c d 10 (by decide) w
theorem squares_20 (a b c d : UInt64) (w : World) :
    Calls Try.prog 89 #[el a b c d, .int .i64 20] w fun e w' => ∃ s0 s1 s2 s3, e = .returned (el s0 s1 s2 s3) ∧
      Eqp (val4 s0 s1 s2 s3) (val4 a b c d ^ 2 ^ 20) ∧ Ext w w' := squares_any a b c d 20 (by decide) w
theorem squares_50 (a b c d : UInt64) (w : World) :
    Calls Try.prog 89 #[el a b c d, .int .i64 50] w fun e w' => ∃ s0 s1 s2 s3, e = .returned (el s0 s1 s2 s3) ∧
      Eqp (val4 s0 s1 s2 s3) (val4 a b c d ^ 2 ^ 50) ∧ Ext w w' := squares_any a b c d 50 (by decide) w
theorem squares_100 (a b c d : UInt64) (w : World) :
    Calls Try.prog 89 #[el a b c d, .int .i64 100] w fun e w' => ∃ s0 s1 s2 s3, e = .returned (el s0 s1 s2 s3) ∧
      Eqp (val4 s0 s1 s2 s3) (val4 a b c d ^ 2 ^ 100) ∧ Ext w w' := squares_any a b c d 100 (by decide) w
end Go.Proofs.Ytndohjgfjbopnaa
