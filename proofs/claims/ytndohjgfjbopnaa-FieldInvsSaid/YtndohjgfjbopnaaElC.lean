/-
  Walks of the element's functions: products.
-/
import Derived.Test.YtndohjgfjbopnaaElB
set_option linter.unusedSimpArgs false
set_option linter.unusedVariables false
namespace Go.Cv
/-- The words' number, n of them. -/
def lvf (x : Nat → UInt64) : Nat → Nat
  | 0 => 0
  | n + 1 => lvf x n + 2 ^ (64 * n) * (x n).toNat
def upd (x : Nat → UInt64) (j : Nat) (v : UInt64) : Nat → UInt64 := fun n => if n = j then v else x n
theorem lvf_upd_ge (x : Nat → UInt64) (j : Nat) (v : UInt64) : ∀ n, n ≤ j → lvf (upd x j v) n = lvf x n
  | 0, _ => rfl
  | n + 1, h => by
    simp only [lvf]
    rw [lvf_upd_ge x j v n (by omega)]
    rw [show upd x j v n = x n from if_neg (by omega)]
theorem lvf_upd (x : Nat → UInt64) (j : Nat) (v : UInt64) : ∀ n, j < n → lvf (upd x j v) n + 2 ^ (64 * j) * (x j).toNat = lvf x n + 2 ^ (64 * j) * v.toNat
  | n + 1, h => by
    simp only [lvf]
    by_cases hj : j = n
    · subst hj
      rw [lvf_upd_ge x j v j (Nat.le_refl _), show upd x j v j = v from if_pos rfl]
      omega
    · have := lvf_upd x j v n (by omega)
      rw [show upd x j v n = x n from if_neg (by omega)]
      omega
theorem lvf4 (x : Nat → UInt64) : lvf x 4 = val4 (x 0) (x 1) (x 2) (x 3) := by
  simp only [lvf, val4]
  omega
theorem lvf_add (x : Nat → UInt64) (m : Nat) : ∀ n, lvf x (m + n) = lvf x m + 2 ^ (64 * m) * lvf (fun j => x (m + j)) n
  | 0 => by simp [lvf]
  | n + 1 => by
    have ih := lvf_add x m n
    show lvf x (m + n) + 2 ^ (64 * (m + n)) * (x (m + n)).toNat = _
    rw [ih]
    simp only [lvf]
    rw [Nat.mul_add (2 ^ (64 * m)), ← Nat.mul_assoc (2 ^ (64 * m)), ← Nat.pow_add, show 64 * m + 64 * n = 64 * (m + n) from by omega]
    omega
theorem lvf_zero {x : Nat → UInt64} (h : ∀ j, x j = 0) : ∀ n, lvf x n = 0
  | 0 => rfl
  | n + 1 => by simp only [lvf]; rw [lvf_zero h n, h n]; rfl
/-- One step of the product: a word by a word, and two words more. -/
def msLo (x y v c : UInt64) : UInt64 := adcS (adcS (x * y) v false) c false
def msHi (x y v c : UInt64) : UInt64 := mulH x y + bc (adcC (x * y) v false) + bc (adcC (adcS (x * y) v false) c false)
theorem ms_law (x y v c : UInt64) : (msLo x y v c).toNat + 18446744073709551616 * (msHi x y v c).toNat = x.toNat * y.toNat + v.toNat + c.toNat := by
  have hx := x.toNat_lt; have hy := y.toNat_lt; have hv := v.toNat_lt; have hc := c.toNat_lt
  have hm := mul_law x y
  have h1 := adc_law (x * y) v false
  have h2 := adc_law (adcS (x * y) v false) c false
  have hb : x.toNat * y.toNat ≤ 18446744073709551615 * 18446744073709551615 := Nat.mul_le_mul (by omega) (by omega)
  have hl := (adcS (adcS (x * y) v false) c false).toNat_lt
  have f : bn false = 0 := rfl
  unfold msLo msHi
  rw [UInt64.toNat_add, UInt64.toNat_add, bc_toNat, bc_toNat]
  rw [Nat.mod_add_mod]
  rw [Nat.mod_eq_of_lt (by omega)]
  omega
theorem mul_step {L A cr P x B F y v lo hi : Nat} {L' : Nat} (h : L + A * cr = P + x * B) (hl : L' + A * v = L + A * lo) (hm : lo + 18446744073709551616 * hi = x * y + v + cr) :
    L' + A * 18446744073709551616 * hi = P + x * (B + A * y) := by
  have e1 : A * (lo + 18446744073709551616 * hi) = A * lo + A * 18446744073709551616 * hi := by rw [Nat.mul_add, Nat.mul_assoc]
  have e2 : A * (x * y + v + cr) = A * (x * y) + A * v + A * cr := by rw [Nat.mul_add, Nat.mul_add]
  rw [hm] at e1
  have e3 : x * (B + A * y) = x * B + A * (x * y) := by rw [Nat.mul_add, Nat.mul_left_comm]
  omega
/-- What stands behind i whole rows and k words of the next. -/
def MulInv (x y ws : Nat → UInt64) (c : UInt64) (i k : Nat) : Prop :=
  lvf ws 8 + 2 ^ (64 * (i + k)) * c.toNat = lvf x i * lvf y 4 + (x i).toNat * (2 ^ (64 * i) * lvf y k) ∧ ∀ j, i + 4 ≤ j → j < 8 → ws j = 0
theorem MulInv.start {x y ws : Nat → UInt64} {i : Nat} (h : lvf ws 8 = lvf x i * lvf y 4) (hz : ∀ j, i + 4 ≤ j → j < 8 → ws j = 0) : MulInv x y ws 0 i 0 := by
  refine ⟨?_, hz⟩
  rw [h]
  simp [lvf]
theorem MulInv.step {x y ws : Nat → UInt64} {c : UInt64} {i k : Nat} (hi : i < 4) (hk : k < 4) (h : MulInv x y ws c i k) :
    MulInv x y (upd ws (i + k) (msLo (x i) (y k) (ws (i + k)) c)) (msHi (x i) (y k) (ws (i + k)) c) i (k + 1) := by
  obtain ⟨h1, h2⟩ := h
  have h3 := lvf_upd ws (i + k) (msLo (x i) (y k) (ws (i + k)) c) 8 (by omega)
  have h4 := ms_law (x i) (y k) (ws (i + k)) c
  have h5 := mul_step (F := 0) h1 h3 h4
  refine ⟨?_, fun j hj hj8 => ?_⟩
  · have e1 : 2 ^ (64 * (i + (k + 1))) = 2 ^ (64 * (i + k)) * 18446744073709551616 := by
      rw [show 64 * (i + (k + 1)) = 64 * (i + k) + 64 from by omega, Nat.pow_add]
    have e2 : 2 ^ (64 * i) * lvf y (k + 1) = 2 ^ (64 * i) * lvf y k + 2 ^ (64 * (i + k)) * (y k).toNat := by
      simp only [lvf]
      rw [Nat.mul_add, ← Nat.mul_assoc, ← Nat.pow_add, show 64 * i + 64 * k = 64 * (i + k) from by omega]
    rw [e1, e2]
    exact h5
  · rw [← h2 j hj hj8]
    exact if_neg (by omega)
theorem MulInv.row {x y ws : Nat → UInt64} {c : UInt64} {i : Nat} (hi : i < 4) (h : MulInv x y ws c i 4) :
    lvf (upd ws (i + 4) c) 8 = lvf x (i + 1) * lvf y 4 ∧ ∀ j, i + 1 + 4 ≤ j → j < 8 → upd ws (i + 4) c j = 0 := by
  obtain ⟨h1, h2⟩ := h
  have h3 := lvf_upd ws (i + 4) c 8 (by omega)
  rw [h2 (i + 4) (Nat.le_refl _) (by omega)] at h3
  refine ⟨?_, fun j hj hj8 => ?_⟩
  · have e : lvf x (i + 1) * lvf y 4 = lvf x i * lvf y 4 + (x i).toNat * (2 ^ (64 * i) * lvf y 4) := by
      simp only [lvf]
      rw [Nat.add_mul, Nat.mul_assoc, Nat.mul_left_comm]
    rw [e]
    rw [show (0 : UInt64).toNat = 0 from rfl, Nat.mul_zero, Nat.add_zero] at h3
    rw [h3]
    exact h1
  · rw [← h2 j (by omega) hj8]
    exact if_neg (by omega)
/-- What stands behind i words of the sum of the low and 38 times the high. -/
def FoldInv (ws o : Nat → UInt64) (c : UInt64) (i : Nat) : Prop :=
  lvf o i + 2 ^ (64 * i) * c.toNat = lvf ws i + 38 * lvf (fun n => ws (n + 4)) i
theorem FoldInv.step {ws o : Nat → UInt64} {c : UInt64} {i : Nat} (h : FoldInv ws o c i) :
    FoldInv ws (upd o i (msLo (ws (i + 4)) 38 (ws i) c)) (msHi (ws (i + 4)) 38 (ws i) c) (i + 1) := by
  unfold FoldInv at *
  have h4 := ms_law (ws (i + 4)) 38 (ws i) c
  simp only [lvf]
  rw [lvf_upd_ge _ _ _ i (Nat.le_refl _), show upd o i (msLo (ws (i + 4)) 38 (ws i) c) i = msLo (ws (i + 4)) 38 (ws i) c from if_pos rfl]
  rw [show 64 * (i + 1) = 64 * i + 64 from by omega, Nat.pow_add]
  generalize 2 ^ (64 * i) = A at *
  rw [show (38 : UInt64).toNat = 38 from rfl] at h4
  generalize (ws (i + 4)).toNat = p at *
  generalize (msLo (ws (i + 4)) 38 (ws i) c).toNat = lo at *
  generalize (msHi (ws (i + 4)) 38 (ws i) c).toNat = hi at *
  have e1 : A * (lo + 18446744073709551616 * hi) = A * lo + A * 2 ^ 64 * hi := by rw [Nat.mul_add, Nat.mul_assoc]
  rw [h4] at e1
  have e2 : A * (p * 38 + (ws i).toNat + c.toNat) = 38 * (A * p) + A * (ws i).toNat + A * c.toNat := by
    rw [Nat.mul_add, Nat.mul_add, Nat.mul_comm p 38, Nat.mul_left_comm]
  omega
theorem FoldInv.done {x y ws o : Nat → UInt64} {c : UInt64} (hm : lvf ws 8 = lvf x 4 * lvf y 4) (h : FoldInv ws o c 4) :
    c.toNat ≤ 38 ∧ Eqp (val4 (o 0) (o 1) (o 2) (o 3) + 38 * c.toNat) (lvf x 4 * lvf y 4) := by
  unfold FoldInv at h
  rw [lvf4, lvf4, lvf4] at h
  have h1 := val4_lt (ws 0) (ws 1) (ws 2) (ws 3)
  have h2 := val4_lt (ws 4) (ws 5) (ws 6) (ws 7)
  have h3 : lvf ws 8 = val4 (ws 0) (ws 1) (ws 2) (ws 3) + 2 ^ 256 * val4 (ws 4) (ws 5) (ws 6) (ws 7) := by
    have h := lvf_add ws 4 4
    rw [lvf4, lvf4] at h
    simp only [Nat.reduceAdd, Nat.reduceMul, Nat.add_zero] at h
    exact h
  rw [hm] at h3
  have h' : val4 (o 0) (o 1) (o 2) (o 3) + 2 ^ 256 * c.toNat = val4 (ws 0) (ws 1) (ws 2) (ws 3) + 38 * val4 (ws 4) (ws 5) (ws 6) (ws 7) := h
  generalize lvf x 4 * lvf y 4 = M at *
  refine ⟨by omega, ?_⟩
  unfold Eqp
  omega
end Go.Cv
namespace Go.Proofs.Ytndohjgfjbopnaa
open Go.RowKit Go.Cv

/-- Words in a row. -/
@[reducible] def uw (x : UInt64) : Value := .int .u64 (n64 x)
theorem u73 : Try.prog.underlying 73 = some (.array 4 71) := by kernel_rfl
theorem idxAny (c : Array Value) (i : Nat) (x : Value) (hi : i < 4) (hv : c[i]? = some x) (w : World) : (Instr.index 73 (.agg c) (.int .i64 (i : Int))).run Try.prog w = .ok x w := by
  simp [Instr.index, run_underlying u73, asIntOf, go_sem]
  rw [if_pos hi, hv]
  rfl
@[go_sem] theorem idx0 (a b c d : Value) (w : World) : (Instr.index 73 (.agg #[a, b, c, d]) (.int .i64 0)).run Try.prog w = .ok a w := idxAny _ 0 a (by decide) rfl w
@[go_sem] theorem idx1 (a b c d : Value) (w : World) : (Instr.index 73 (.agg #[a, b, c, d]) (.int .i64 1)).run Try.prog w = .ok b w := idxAny _ 1 b (by decide) rfl w
@[go_sem] theorem idx2 (a b c d : Value) (w : World) : (Instr.index 73 (.agg #[a, b, c, d]) (.int .i64 2)).run Try.prog w = .ok c w := idxAny _ 2 c (by decide) rfl w
@[go_sem] theorem idx3 (a b c d : Value) (w : World) : (Instr.index 73 (.agg #[a, b, c, d]) (.int .i64 3)).run Try.prog w = .ok d w := idxAny _ 3 d (by decide) rfl w
theorem add_lit (a b c d p : UInt64) (w : World) :
    Calls Try.prog 67 #[el a b c d, .agg #[.int .u64 (n64 p), .int .u64 0, .int .u64 0, .int .u64 0]] w fun e w' => ∃ s0 s1 s2 s3, e = .returned (el s0 s1 s2 s3) ∧
      Eqp (val4 s0 s1 s2 s3) (val4 a b c d + val4 p 0 0 0) ∧ Ext w w' := add_any a b c d p 0 0 0 w
theorem mul64_38 (x : UInt64) (w : World) :
    Calls Try.prog 78 #[.int .u64 (n64 x), .int .u64 38] w fun e w' => e = .returned (.tuple #[.int .u64 (n64 (mulH x 38)), .int .u64 (n64 (x * 38))]) ∧ w' = w := mul64 x 38 w

set_option maxRecDepth 4000 in
set_option maxHeartbeats 4000000 in
theorem mul_fun (x y : Nat → UInt64) (w : World) :
    Calls Try.prog 70 #[el (x 0) (x 1) (x 2) (x 3), el (y 0) (y 1) (y 2) (y 3)] w fun e w' => ∃ s0 s1 s2 s3, e = .returned (el s0 s1 s2 s3) ∧
      Eqp (val4 s0 s1 s2 s3) (lvf x 4 * lvf y 4) ∧ Ext w w' := by
  go_enter Try.func70, Try.ntmps70
  go_wp2
  go_loopw [21] (fun i wr => ∃ (k : Nat) (ws : Nat → UInt64), k ≤ 4 ∧ i = .int .i64 k ∧ wr = (((w.alloc (.cells #[uw (x 0), uw (x 1), uw (x 2), uw (x 3)] 73)).alloc (.cells #[uw (y 0), uw (y 1), uw (y 2), uw (y 3)] 73)).alloc (.cells #[uw 0, uw 0, uw 0, uw 0] 73)).alloc (.cells #[uw (ws 0), uw (ws 1), uw (ws 2), uw (ws 3), uw (ws 4), uw (ws 5), uw (ws 6), uw (ws 7)] 104) ∧ lvf ws 8 = lvf x k * lvf y 4 ∧ ∀ j, k + 4 ≤ j → j < 8 → ws j = 0) (fun i _ => 4 - (intOf i).toNat)
  case atStart => exact ⟨0, fun _ => 0, by omega, rfl, rfl, by rw [lvf_zero (x := fun _ => 0) (fun _ => rfl), show lvf x 0 = 0 from rfl, Nat.zero_mul], fun _ _ _ => rfl⟩
  case round =>
    obtain ⟨k, ws, hk, rfl, rfl, hv, hz⟩ := hrel
    have HM : Hid (MulInv x y ws 0 k 0) := Lib.hid (MulInv.start hv hz)
    have HV := Lib.hid hv
    clear hv hz
    rcases (by omega : k = 0 ∨ k = 1 ∨ k = 2 ∨ k = 3 ∨ k = 4) with rfl | rfl | rfl | rfl | rfl
    · go_wp2
      clear HV
      go_loopw [8, 26] (fun c kk wr => ∃ (k : Nat) (cr : UInt64) (ws : Nat → UInt64), k ≤ 4 ∧ kk = .int .i64 k ∧ c = uw cr ∧ wr = (((w.alloc (.cells #[uw (x 0), uw (x 1), uw (x 2), uw (x 3)] 73)).alloc (.cells #[uw (y 0), uw (y 1), uw (y 2), uw (y 3)] 73)).alloc (.cells #[uw 0, uw 0, uw 0, uw 0] 73)).alloc (.cells #[uw (ws 0), uw (ws 1), uw (ws 2), uw (ws 3), uw (ws 4), uw (ws 5), uw (ws 6), uw (ws 7)] 104) ∧ MulInv x y ws cr 0 k) (fun _ kk _ => 4 - (intOf kk).toNat)
      case atStart => exact ⟨0, 0, ws, by omega, rfl, rfl, rfl, HM.out⟩
      case round =>
        clear HM
        clear ws
        obtain ⟨k, cr, ws, hk, rfl, rfl, rfl, hm⟩ := hrel
        have HM := Lib.hid hm
        clear hm
        rcases (by omega : k = 0 ∨ k = 1 ∨ k = 2 ∨ k = 3 ∨ k = 4) with rfl | rfl | rfl | rfl | rfl
        · go_wp2_with (first | simp only [add64_c0] | (go_at_call 78; with_reducible refine (mul64 _ _ _).mono ?_; rintro e w' ⟨rfl, rfl⟩))
          refine ⟨?_, by simp [intOf]⟩
          iterate 44 (apply Exists.intro)
          refine ⟨?_, rfl⟩
          exact ⟨1, msHi (x 0) (y 0) (ws (0+0)) cr, upd ws (0+0) (msLo (x 0) (y 0) (ws (0+0)) cr), by omega, rfl, rfl, rfl, MulInv.step (by decide) (by decide) HM.out⟩
        · go_wp2_with (first | simp only [add64_c0] | (go_at_call 78; with_reducible refine (mul64 _ _ _).mono ?_; rintro e w' ⟨rfl, rfl⟩))
          refine ⟨?_, by simp [intOf]⟩
          iterate 44 (apply Exists.intro)
          refine ⟨?_, rfl⟩
          exact ⟨2, msHi (x 0) (y 1) (ws (0+1)) cr, upd ws (0+1) (msLo (x 0) (y 1) (ws (0+1)) cr), by omega, rfl, rfl, rfl, MulInv.step (by decide) (by decide) HM.out⟩
        · go_wp2_with (first | simp only [add64_c0] | (go_at_call 78; with_reducible refine (mul64 _ _ _).mono ?_; rintro e w' ⟨rfl, rfl⟩))
          refine ⟨?_, by simp [intOf]⟩
          iterate 44 (apply Exists.intro)
          refine ⟨?_, rfl⟩
          exact ⟨3, msHi (x 0) (y 2) (ws (0+2)) cr, upd ws (0+2) (msLo (x 0) (y 2) (ws (0+2)) cr), by omega, rfl, rfl, rfl, MulInv.step (by decide) (by decide) HM.out⟩
        · go_wp2_with (first | simp only [add64_c0] | (go_at_call 78; with_reducible refine (mul64 _ _ _).mono ?_; rintro e w' ⟨rfl, rfl⟩))
          refine ⟨?_, by simp [intOf]⟩
          iterate 44 (apply Exists.intro)
          refine ⟨?_, rfl⟩
          exact ⟨4, msHi (x 0) (y 3) (ws (0+3)) cr, upd ws (0+3) (msLo (x 0) (y 3) (ws (0+3)) cr), by omega, rfl, rfl, rfl, MulInv.step (by decide) (by decide) HM.out⟩
        · go_wp2
          have hr := MulInv.row (by decide) HM.out
          refine ⟨?_, by simp [intOf]⟩
          exact ⟨1, upd ws (0 + 4) cr, by omega, rfl, rfl, hr.1, hr.2⟩
    · go_wp2
      clear HV
      go_loopw [8, 26] (fun c kk wr => ∃ (k : Nat) (cr : UInt64) (ws : Nat → UInt64), k ≤ 4 ∧ kk = .int .i64 k ∧ c = uw cr ∧ wr = (((w.alloc (.cells #[uw (x 0), uw (x 1), uw (x 2), uw (x 3)] 73)).alloc (.cells #[uw (y 0), uw (y 1), uw (y 2), uw (y 3)] 73)).alloc (.cells #[uw 0, uw 0, uw 0, uw 0] 73)).alloc (.cells #[uw (ws 0), uw (ws 1), uw (ws 2), uw (ws 3), uw (ws 4), uw (ws 5), uw (ws 6), uw (ws 7)] 104) ∧ MulInv x y ws cr 1 k) (fun _ kk _ => 4 - (intOf kk).toNat)
      case atStart => exact ⟨0, 0, ws, by omega, rfl, rfl, rfl, HM.out⟩
      case round =>
        clear HM
        clear ws
        obtain ⟨k, cr, ws, hk, rfl, rfl, rfl, hm⟩ := hrel
        have HM := Lib.hid hm
        clear hm
        rcases (by omega : k = 0 ∨ k = 1 ∨ k = 2 ∨ k = 3 ∨ k = 4) with rfl | rfl | rfl | rfl | rfl
        · go_wp2_with (first | simp only [add64_c0] | (go_at_call 78; with_reducible refine (mul64 _ _ _).mono ?_; rintro e w' ⟨rfl, rfl⟩))
          refine ⟨?_, by simp [intOf]⟩
          iterate 44 (apply Exists.intro)
          refine ⟨?_, rfl⟩
          exact ⟨1, msHi (x 1) (y 0) (ws (1+0)) cr, upd ws (1+0) (msLo (x 1) (y 0) (ws (1+0)) cr), by omega, rfl, rfl, rfl, MulInv.step (by decide) (by decide) HM.out⟩
        · go_wp2_with (first | simp only [add64_c0] | (go_at_call 78; with_reducible refine (mul64 _ _ _).mono ?_; rintro e w' ⟨rfl, rfl⟩))
          refine ⟨?_, by simp [intOf]⟩
          iterate 44 (apply Exists.intro)
          refine ⟨?_, rfl⟩
          exact ⟨2, msHi (x 1) (y 1) (ws (1+1)) cr, upd ws (1+1) (msLo (x 1) (y 1) (ws (1+1)) cr), by omega, rfl, rfl, rfl, MulInv.step (by decide) (by decide) HM.out⟩
        · go_wp2_with (first | simp only [add64_c0] | (go_at_call 78; with_reducible refine (mul64 _ _ _).mono ?_; rintro e w' ⟨rfl, rfl⟩))
          refine ⟨?_, by simp [intOf]⟩
          iterate 44 (apply Exists.intro)
          refine ⟨?_, rfl⟩
          exact ⟨3, msHi (x 1) (y 2) (ws (1+2)) cr, upd ws (1+2) (msLo (x 1) (y 2) (ws (1+2)) cr), by omega, rfl, rfl, rfl, MulInv.step (by decide) (by decide) HM.out⟩
        · go_wp2_with (first | simp only [add64_c0] | (go_at_call 78; with_reducible refine (mul64 _ _ _).mono ?_; rintro e w' ⟨rfl, rfl⟩))
          refine ⟨?_, by simp [intOf]⟩
          iterate 44 (apply Exists.intro)
          refine ⟨?_, rfl⟩
          exact ⟨4, msHi (x 1) (y 3) (ws (1+3)) cr, upd ws (1+3) (msLo (x 1) (y 3) (ws (1+3)) cr), by omega, rfl, rfl, rfl, MulInv.step (by decide) (by decide) HM.out⟩
        · go_wp2
          have hr := MulInv.row (by decide) HM.out
          refine ⟨?_, by simp [intOf]⟩
          exact ⟨2, upd ws (1 + 4) cr, by omega, rfl, rfl, hr.1, hr.2⟩
    · go_wp2
      clear HV
      go_loopw [8, 26] (fun c kk wr => ∃ (k : Nat) (cr : UInt64) (ws : Nat → UInt64), k ≤ 4 ∧ kk = .int .i64 k ∧ c = uw cr ∧ wr = (((w.alloc (.cells #[uw (x 0), uw (x 1), uw (x 2), uw (x 3)] 73)).alloc (.cells #[uw (y 0), uw (y 1), uw (y 2), uw (y 3)] 73)).alloc (.cells #[uw 0, uw 0, uw 0, uw 0] 73)).alloc (.cells #[uw (ws 0), uw (ws 1), uw (ws 2), uw (ws 3), uw (ws 4), uw (ws 5), uw (ws 6), uw (ws 7)] 104) ∧ MulInv x y ws cr 2 k) (fun _ kk _ => 4 - (intOf kk).toNat)
      case atStart => exact ⟨0, 0, ws, by omega, rfl, rfl, rfl, HM.out⟩
      case round =>
        clear HM
        clear ws
        obtain ⟨k, cr, ws, hk, rfl, rfl, rfl, hm⟩ := hrel
        have HM := Lib.hid hm
        clear hm
        rcases (by omega : k = 0 ∨ k = 1 ∨ k = 2 ∨ k = 3 ∨ k = 4) with rfl | rfl | rfl | rfl | rfl
        · go_wp2_with (first | simp only [add64_c0] | (go_at_call 78; with_reducible refine (mul64 _ _ _).mono ?_; rintro e w' ⟨rfl, rfl⟩))
          refine ⟨?_, by simp [intOf]⟩
          iterate 44 (apply Exists.intro)
          refine ⟨?_, rfl⟩
          exact ⟨1, msHi (x 2) (y 0) (ws (2+0)) cr, upd ws (2+0) (msLo (x 2) (y 0) (ws (2+0)) cr), by omega, rfl, rfl, rfl, MulInv.step (by decide) (by decide) HM.out⟩
        · go_wp2_with (first | simp only [add64_c0] | (go_at_call 78; with_reducible refine (mul64 _ _ _).mono ?_; rintro e w' ⟨rfl, rfl⟩))
          refine ⟨?_, by simp [intOf]⟩
          iterate 44 (apply Exists.intro)
          refine ⟨?_, rfl⟩
          exact ⟨2, msHi (x 2) (y 1) (ws (2+1)) cr, upd ws (2+1) (msLo (x 2) (y 1) (ws (2+1)) cr), by omega, rfl, rfl, rfl, MulInv.step (by decide) (by decide) HM.out⟩
        · go_wp2_with (first | simp only [add64_c0] | (go_at_call 78; with_reducible refine (mul64 _ _ _).mono ?_; rintro e w' ⟨rfl, rfl⟩))
          refine ⟨?_, by simp [intOf]⟩
          iterate 44 (apply Exists.intro)
          refine ⟨?_, rfl⟩
          exact ⟨3, msHi (x 2) (y 2) (ws (2+2)) cr, upd ws (2+2) (msLo (x 2) (y 2) (ws (2+2)) cr), by omega, rfl, rfl, rfl, MulInv.step (by decide) (by decide) HM.out⟩
        · go_wp2_with (first | simp only [add64_c0] | (go_at_call 78; with_reducible refine (mul64 _ _ _).mono ?_; rintro e w' ⟨rfl, rfl⟩))
          refine ⟨?_, by simp [intOf]⟩
          iterate 44 (apply Exists.intro)
          refine ⟨?_, rfl⟩
          exact ⟨4, msHi (x 2) (y 3) (ws (2+3)) cr, upd ws (2+3) (msLo (x 2) (y 3) (ws (2+3)) cr), by omega, rfl, rfl, rfl, MulInv.step (by decide) (by decide) HM.out⟩
        · go_wp2
          have hr := MulInv.row (by decide) HM.out
          refine ⟨?_, by simp [intOf]⟩
          exact ⟨3, upd ws (2 + 4) cr, by omega, rfl, rfl, hr.1, hr.2⟩
    · go_wp2
      clear HV
      go_loopw [8, 26] (fun c kk wr => ∃ (k : Nat) (cr : UInt64) (ws : Nat → UInt64), k ≤ 4 ∧ kk = .int .i64 k ∧ c = uw cr ∧ wr = (((w.alloc (.cells #[uw (x 0), uw (x 1), uw (x 2), uw (x 3)] 73)).alloc (.cells #[uw (y 0), uw (y 1), uw (y 2), uw (y 3)] 73)).alloc (.cells #[uw 0, uw 0, uw 0, uw 0] 73)).alloc (.cells #[uw (ws 0), uw (ws 1), uw (ws 2), uw (ws 3), uw (ws 4), uw (ws 5), uw (ws 6), uw (ws 7)] 104) ∧ MulInv x y ws cr 3 k) (fun _ kk _ => 4 - (intOf kk).toNat)
      case atStart => exact ⟨0, 0, ws, by omega, rfl, rfl, rfl, HM.out⟩
      case round =>
        clear HM
        clear ws
        obtain ⟨k, cr, ws, hk, rfl, rfl, rfl, hm⟩ := hrel
        have HM := Lib.hid hm
        clear hm
        rcases (by omega : k = 0 ∨ k = 1 ∨ k = 2 ∨ k = 3 ∨ k = 4) with rfl | rfl | rfl | rfl | rfl
        · go_wp2_with (first | simp only [add64_c0] | (go_at_call 78; with_reducible refine (mul64 _ _ _).mono ?_; rintro e w' ⟨rfl, rfl⟩))
          refine ⟨?_, by simp [intOf]⟩
          iterate 44 (apply Exists.intro)
          refine ⟨?_, rfl⟩
          exact ⟨1, msHi (x 3) (y 0) (ws (3+0)) cr, upd ws (3+0) (msLo (x 3) (y 0) (ws (3+0)) cr), by omega, rfl, rfl, rfl, MulInv.step (by decide) (by decide) HM.out⟩
        · go_wp2_with (first | simp only [add64_c0] | (go_at_call 78; with_reducible refine (mul64 _ _ _).mono ?_; rintro e w' ⟨rfl, rfl⟩))
          refine ⟨?_, by simp [intOf]⟩
          iterate 44 (apply Exists.intro)
          refine ⟨?_, rfl⟩
          exact ⟨2, msHi (x 3) (y 1) (ws (3+1)) cr, upd ws (3+1) (msLo (x 3) (y 1) (ws (3+1)) cr), by omega, rfl, rfl, rfl, MulInv.step (by decide) (by decide) HM.out⟩
        · go_wp2_with (first | simp only [add64_c0] | (go_at_call 78; with_reducible refine (mul64 _ _ _).mono ?_; rintro e w' ⟨rfl, rfl⟩))
          refine ⟨?_, by simp [intOf]⟩
          iterate 44 (apply Exists.intro)
          refine ⟨?_, rfl⟩
          exact ⟨3, msHi (x 3) (y 2) (ws (3+2)) cr, upd ws (3+2) (msLo (x 3) (y 2) (ws (3+2)) cr), by omega, rfl, rfl, rfl, MulInv.step (by decide) (by decide) HM.out⟩
        · go_wp2_with (first | simp only [add64_c0] | (go_at_call 78; with_reducible refine (mul64 _ _ _).mono ?_; rintro e w' ⟨rfl, rfl⟩))
          refine ⟨?_, by simp [intOf]⟩
          iterate 44 (apply Exists.intro)
          refine ⟨?_, rfl⟩
          exact ⟨4, msHi (x 3) (y 3) (ws (3+3)) cr, upd ws (3+3) (msLo (x 3) (y 3) (ws (3+3)) cr), by omega, rfl, rfl, rfl, MulInv.step (by decide) (by decide) HM.out⟩
        · go_wp2
          have hr := MulInv.row (by decide) HM.out
          refine ⟨?_, by simp [intOf]⟩
          exact ⟨4, upd ws (3 + 4) cr, by omega, rfl, rfl, hr.1, hr.2⟩
    · clear HM
      go_wp2
      go_loopw [15, 69] (fun c kk wr => ∃ (k : Nat) (cr : UInt64) (o : Nat → UInt64), k ≤ 4 ∧ kk = .int .i64 k ∧ c = uw cr ∧ wr = ((((w.alloc (.cells #[uw (x 0), uw (x 1), uw (x 2), uw (x 3)] 73)).alloc (.cells #[uw (y 0), uw (y 1), uw (y 2), uw (y 3)] 73)).alloc (.cells #[uw 0, uw 0, uw 0, uw 0] 73)).alloc (.cells #[uw (ws 0), uw (ws 1), uw (ws 2), uw (ws 3), uw (ws 4), uw (ws 5), uw (ws 6), uw (ws 7)] 104)).alloc (.cells #[uw (o 0), uw (o 1), uw (o 2), uw (o 3)] 73) ∧ FoldInv ws o cr k) (fun _ kk _ => 4 - (intOf kk).toNat)
      case atStart => exact ⟨0, 0, fun _ => 0, by omega, rfl, rfl, rfl, by simp [FoldInv, lvf]⟩
      case round =>
        obtain ⟨k, cr, o, hk, rfl, rfl, rfl, hf⟩ := hrel
        have HF := Lib.hid hf
        clear hf
        rcases (by omega : k = 0 ∨ k = 1 ∨ k = 2 ∨ k = 3 ∨ k = 4) with rfl | rfl | rfl | rfl | rfl
        · go_wp2_with (first | simp only [add64_c0] | (go_at_call 78; with_reducible refine (mul64_38 _ _).mono ?_; rintro e w' ⟨rfl, rfl⟩))
          refine ⟨?_, by simp [intOf]⟩
          iterate 40 (apply Exists.intro)
          refine ⟨?_, rfl⟩
          exact ⟨1, msHi (ws (0+4)) 38 (ws 0) cr, upd o 0 (msLo (ws (0+4)) 38 (ws 0) cr), by omega, rfl, rfl, rfl, FoldInv.step HF.out⟩
        · go_wp2_with (first | simp only [add64_c0] | (go_at_call 78; with_reducible refine (mul64_38 _ _).mono ?_; rintro e w' ⟨rfl, rfl⟩))
          refine ⟨?_, by simp [intOf]⟩
          iterate 40 (apply Exists.intro)
          refine ⟨?_, rfl⟩
          exact ⟨2, msHi (ws (1+4)) 38 (ws 1) cr, upd o 1 (msLo (ws (1+4)) 38 (ws 1) cr), by omega, rfl, rfl, rfl, FoldInv.step HF.out⟩
        · go_wp2_with (first | simp only [add64_c0] | (go_at_call 78; with_reducible refine (mul64_38 _ _).mono ?_; rintro e w' ⟨rfl, rfl⟩))
          refine ⟨?_, by simp [intOf]⟩
          iterate 40 (apply Exists.intro)
          refine ⟨?_, rfl⟩
          exact ⟨3, msHi (ws (2+4)) 38 (ws 2) cr, upd o 2 (msLo (ws (2+4)) 38 (ws 2) cr), by omega, rfl, rfl, rfl, FoldInv.step HF.out⟩
        · go_wp2_with (first | simp only [add64_c0] | (go_at_call 78; with_reducible refine (mul64_38 _ _).mono ?_; rintro e w' ⟨rfl, rfl⟩))
          refine ⟨?_, by simp [intOf]⟩
          iterate 40 (apply Exists.intro)
          refine ⟨?_, rfl⟩
          exact ⟨4, msHi (ws (3+4)) 38 (ws 3) cr, upd o 3 (msLo (ws (3+4)) 38 (ws 3) cr), by omega, rfl, rfl, rfl, FoldInv.step HF.out⟩
        · have hd := FoldInv.done HV.out HF.out
          have HD := Lib.hid hd.2
          have HC := Lib.hid hd.1
          clear hd HF HV
          go_wp2_with (go_at_call 67; with_reducible refine (add_lit _ _ _ _ _ _).mono ?_; rintro e w' ⟨s0, s1, s2, s3, rfl, hs, hx⟩; obtain ⟨l', rfl⟩ := grw_of_ext hx; clear hx)
          refine bodyPost_ret_by (by simp [results, Try.results70, go_sem]; rfl) rfl ?_
          refine ⟨s0, s1, s2, s3, rfl, ?_, ?_⟩
          · refine hs.trans ?_
            have h1 := HD.out
            have h2 := HC.out
            have e : val4 (38 * cr) 0 0 0 = 38 * cr.toNat := by
              unfold val4
              rw [UInt64.toNat_mul]
              rw [show (38 : UInt64).toNat = 38 from rfl, show (0 : UInt64).toNat = 0 from rfl]
              rw [Nat.mod_eq_of_lt (by omega)]
              omega
            rw [e]
            exact h1
          · exact (((((ext_alloc _ _).trans (ext_alloc _ _)).trans (ext_alloc _ _)).trans (ext_alloc _ _)).trans (ext_alloc _ _)).trans (grw_ext _ _)
theorem mul_any (a b c d a' b' c' d' : UInt64) (w : World) :
    Calls Try.prog 70 #[el a b c d, el a' b' c' d'] w fun e w' => ∃ s0 s1 s2 s3, e = .returned (el s0 s1 s2 s3) ∧
      Eqp (val4 s0 s1 s2 s3) (val4 a b c d * val4 a' b' c' d') ∧ Ext w w' := by
  have h := mul_fun (fun n => if n = 0 then a else if n = 1 then b else if n = 2 then c else d) (fun n => if n = 0 then a' else if n = 1 then b' else if n = 2 then c' else d') w
  rw [lvf4, lvf4] at h
  exact h
end Go.Proofs.Ytndohjgfjbopnaa
