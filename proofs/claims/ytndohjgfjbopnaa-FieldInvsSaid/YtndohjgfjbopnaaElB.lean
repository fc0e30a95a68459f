/-
  Walks of the element's functions: differences.
-/
import Derived.Test.YtndohjgfjbopnaaElA
set_option linter.unusedSimpArgs false
set_option linter.unusedVariables false
namespace Go.Proofs.Ytndohjgfjbopnaa
open Go.RowKit Go.Cv

theorem sub_step {s t f A B k q : Nat} (hv : Eqp (s + B) (A + f)) (h : t + f = s + 2 ^ 256 * q) : Eqp (t + B) (A + q * 38) := by
  unfold Eqp at *
  omega

set_option maxHeartbeats 800000 in
theorem sub_any (a b c d a' b' c' d' : UInt64) (w : World) :
    Calls Try.prog 69 #[el a b c d, el a' b' c' d'] w fun e w' => ∃ s0 s1 s2 s3, e = .returned (el s0 s1 s2 s3) ∧
      Eqp (val4 s0 s1 s2 s3 + val4 a' b' c' d') (val4 a b c d) ∧ Ext w w' := by
  go_enter Try.func69, Try.ntmps69
  go_wp2
  go_loopg [5] 3 (fun g k wr => ∃ (s0 s1 s2 s3 t0 t1 t2 t3 : UInt64) (q : Bool), k = .int .u64 (n64 (bc q)) ∧
    wr = (((w.alloc (.cells (w4 s0 s1 s2 s3) 73)).alloc (.cells (w4 t0 t1 t2 t3) 73)).alloc (.cells (w4 0 0 0 0) 73)) ∧
    Eqp (val4 s0 s1 s2 s3 + val4 a' b' c' d') (val4 a b c d + bn q * val4 t0 t1 t2 t3) ∧ (q = true → 1 ≤ g ∧ (g ≤ 2 → val4 t0 t1 t2 t3 = 38) ∧ (g = 1 → 38 ≤ val4 s0 s1 s2 s3)))
  case atStart =>
    refine ⟨a, b, c, d, a', b', c', d', true, rfl, rfl, ?_, fun _ => ⟨by decide, fun h => absurd h (by decide), fun h => absurd h (by decide)⟩⟩
    rw [show bn true = 1 from rfl, Nat.one_mul]
  case round =>
    obtain ⟨s0, s1, s2, s3, t0, t1, t2, t3, q, rfl, rfl, hv, hq⟩ := hrel
    cases q with
    | false =>
      have HV := Lib.hid hv
      clear hv hq
      go_wp2
      refine bodyPost_ret_by (by simp [results, Try.results69, go_sem]; rfl) rfl ?_
      refine ⟨_, _, _, _, rfl, ?_, ((ext_alloc _ _).trans (ext_alloc _ _)).trans (ext_alloc _ _)⟩
      have := HV.out
      rw [show bn false = 0 from rfl, Nat.zero_mul, Nat.add_zero] at this
      exact this
    | true =>
      have HV := Lib.hid hv
      have HQ := Lib.hid (hq rfl)
      clear hv hq
      go_wp2_with (first | simp only [sub64_c0] | simp only [sub64])
      have hb := HQ.out
      have hv := HV.out
      have hl := val4_lt s0 s1 s2 s3
      have h0 := sbb_law s0 t0 false
      have h1 := sbb_law s1 t1 (sbbC s0 t0 false)
      have h2 := sbb_law s2 t2 (sbbC s1 t1 (sbbC s0 t0 false))
      have h3 := sbb_law s3 t3 (sbbC s2 t2 (sbbC s1 t1 (sbbC s0 t0 false)))
      have f : bn false = 0 := rfl
      have ht : val4 (sbbS s0 t0 false) (sbbS s1 t1 (sbbC s0 t0 false)) (sbbS s2 t2 (sbbC s1 t1 (sbbC s0 t0 false))) (sbbS s3 t3 (sbbC s2 t2 (sbbC s1 t1 (sbbC s0 t0 false)))) + val4 t0 t1 t2 t3 =
          val4 s0 s1 s2 s3 + 2 ^ 256 * bn (sbbC s3 t3 (sbbC s2 t2 (sbbC s1 t1 (sbbC s0 t0 false)))) := by
        unfold val4
        omega
      rw [show bn true = 1 from rfl, Nat.one_mul] at hv
      have h38 : val4 38 0 0 0 = 38 := rfl
      go_roundg (gk - 1)
      case measure => omega
      case rel =>
        refine ⟨_, _, _, _, 38, 0, 0, 0, _, rfl, rfl, ?_, ?_⟩
        · rw [h38]
          exact sub_step (k := 0) hv ht
        · intro hq'
          rw [hq'] at ht
          rw [show bn true = 1 from rfl] at ht
          rw [h38]
          have ht4 := val4_lt t0 t1 t2 t3
          refine ⟨?_, fun _ => rfl, ?_⟩
          · by_cases hg : gk = 1
            · have := hb.2.1 (by omega)
              have := hb.2.2 hg
              have := val4_lt (sbbS s0 t0 false) (sbbS s1 t1 (sbbC s0 t0 false)) (sbbS s2 t2 (sbbC s1 t1 (sbbC s0 t0 false))) (sbbS s3 t3 (sbbC s2 t2 (sbbC s1 t1 (sbbC s0 t0 false))))
              omega
            · omega
          · intro hg
            have := hb.2.1 (by omega)
            omega
end Go.Proofs.Ytndohjgfjbopnaa
