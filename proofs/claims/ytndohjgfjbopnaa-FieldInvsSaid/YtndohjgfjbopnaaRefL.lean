/-
  Walks of the document's answer: powers and the inverse.
-/
import Derived.Test.YtndohjgfjbopnaaRefK
set_option linter.unusedSimpArgs false
set_option linter.unusedVariables false
namespace Go.Cv.Dig
theorem pow_odd {p o a n N : Nat} (h : (o * a ^ n) % p = N) (hn : n % 2 = 1) : ((o * a) % p * ((a * a) % p) ^ (n / 2)) % p = N := by
  have e : n = n / 2 * 2 + 1 := by omega
  rw [Nat.mul_mod, Nat.pow_mod, Nat.mod_mod, Nat.mod_mod, ← Nat.pow_mod, ← Nat.mul_mod, ← h]
  have e2 : a ^ n = a * (a * a) ^ (n / 2) := by
    conv => lhs; rw [e]
    rw [Nat.pow_succ, Nat.mul_comm (n / 2) 2, Nat.pow_mul, Nat.pow_two, Nat.mul_comm]
  rw [e2, Nat.mul_assoc]
theorem pow_even {p o a n N : Nat} (h : (o * a ^ n) % p = N) (hn : ¬ n % 2 = 1) : (o * ((a * a) % p) ^ (n / 2)) % p = N := by
  have e : n = n / 2 * 2 := by omega
  rw [Nat.mul_mod, Nat.pow_mod, Nat.mod_mod, ← Nat.pow_mod, ← Nat.mul_mod, ← h]
  have e2 : a ^ n = (a * a) ^ (n / 2) := by
    conv => lhs; rw [e]
    rw [Nat.mul_comm (n / 2) 2, Nat.pow_mul, Nat.pow_two]
  rw [e2]
theorem Canon.pos_len {l : List Nat} (h : Canon l) (hn : 0 < l.length) : 0 < dval l := by
  have := h.lb (List.ne_nil_of_length_pos hn)
  have h2 : 0 < 16777216 ^ (l.length - 1) := Nat.pow_pos (by decide)
  omega
end Go.Cv.Dig
namespace Go.Proofs.Ytndohjgfjbopnaa
open Go.RowKit Go.Cv Go.Cv.Dig
theorem Num.mono {w : World} {v : Value} {x N M : Nat} (h : Num w v x N) (hM : N ≤ M) : Num w v x M := by
  obtain ⟨A, n, c, l, rfl, hn, hc, hr, hl, hx, hN⟩ := h
  exact Num.mk hn hc hr hl hx (Nat.le_trans hN hM)
theorem num_lit (d : Nat) (h0 : d ≠ 0) (hd : d < 16777216) (w : World) (t : TypeId) : Num (w.alloc (.cells #[.int .i64 (d : Int)] t)) (.slice (some ⟨w.heap.size, 0, none⟩) 1 1) d 11 :=
  Num.mk (l := [d]) rfl (Nat.le_refl _) (rd_new_one w (iv d) t) ⟨Canon.of_snoc hd, by simpa using h0⟩ (dval_one d) (by decide)
theorem num_1 (w : World) (t : TypeId) : Num (w.alloc (.cells #[.int .i64 1] t)) (.slice (some ⟨w.heap.size, 0, none⟩) 1 1) 1 11 := num_lit 1 (by decide) (by decide) w t
theorem num_2 (w : World) (t : TypeId) : Num (w.alloc (.cells #[.int .i64 2] t)) (.slice (some ⟨w.heap.size, 0, none⟩) 1 1) 2 11 := num_lit 2 (by decide) (by decide) w t
theorem num_3 (w : World) (t : TypeId) : Num (w.alloc (.cells #[.int .i64 3] t)) (.slice (some ⟨w.heap.size, 0, none⟩) 1 1) 3 11 := num_lit 3 (by decide) (by decide) w t

set_option maxRecDepth 4000 in
set_option maxHeartbeats 4000000 in
theorem rpower_any (w : World) (va vn : Value) (a y P : Nat) (hP : P = 2 ^ 255 - 19) (ha : Num w va a 11) (hn : Num w vn y 11) :
    Calls Try.prog 62 #[va, vn] w fun e w' => ∃ v, e = .returned v ∧ Num w' v (a ^ y % P) 11 ∧ Ext w w' := by
  obtain ⟨N, hN⟩ : ∃ N, N = a ^ y % P := ⟨_, rfl⟩
  rw [← hN]
  replace hN := Lib.hid hN
  have HA := Lib.hid ha
  have HY := Lib.hid hn
  obtain ⟨A, n1, c1, l1, rfl, -⟩ := ha
  obtain ⟨B, n2, c2, l2, rfl, -⟩ := hn
  obtain ⟨R, hR⟩ : ∃ R : World → Value → Value → Value → Nat → Prop, R = fun wr v0 v1 v5 n => ∃ a' o, Num wr v0 a' 11 ∧ Num wr v1 n 11 ∧ Num wr v5 o 11 ∧ Ext w wr ∧ o < P ∧ (o * a' ^ n) % P = N := ⟨_, rfl⟩
  replace hR := Lib.hid hR
  have hM : ∀ (w : World) (v1 v2 : Value) (x y : Nat), Num w v1 x 11 → Num w v2 y 11 → Calls Try.prog 26 #[v1, v2] w fun e w' => ∃ v, e = .returned v ∧ Num w' v ((x * y) % P) 11 ∧ Ext w w' := by
    rw [hP]; exact rmul_any
  have hP2 : Hid (1 < P) := Lib.hid (by rw [hP]; decide)
  clear hP
  go_enter Try.func62, Try.ntmps62
  go_wp2
  go_loopw [0, 1, 5] (fun v0 v1 v5 wr => ∃ n, R wr v0 v1 v5 n) (fun v0 v1 v5 wr => leastN (R wr v0 v1 v5))
  case atStart => exact ⟨y, by rw [hR.out]; exact ⟨a, 1, HA.out.ext (ext_alloc _ _), HY.out.ext (ext_alloc _ _), num_1 _ _, ext_alloc _ _, hP2.out, by rw [Nat.one_mul]; exact hN.out.symm⟩⟩
  case round =>
    have hsp := leastN_spec hrel
    clear hrel
    obtain ⟨M, hx⟩ : ∃ x, x = leastN (R wr u0 u1 u5) := ⟨_, rfl⟩
    rw [← hx, hR.out] at hsp
    replace hx := Lib.hid hx
    obtain ⟨a', o, h0, h1, h5, hE, ho, hpow⟩ := hsp
    replace hpow := Lib.hid hpow
    obtain ⟨C, m, c, l, rfl, hm, hc, hr, hcan, hval, hle⟩ := h1
    have HM := Lib.hid hm
    have HC := Lib.hid hcan
    have HV := Lib.hid hval
    clear hm hcan hval
    by_cases h00 : m = 0
    · subst h00
      have h6 : Hid (M = 0) := Lib.hid (by
        have : l = [] := List.eq_nil_of_length_eq_zero HM.out
        rw [← HV.out, this]; rfl)
      have h7 : Hid (o = N) := Lib.hid (by
        have := hpow.out
        rw [h6.out, Nat.pow_zero, Nat.mul_one, Nat.mod_eq_of_lt ho] at this
        exact this)
      go_wp2
      go_ret
      exact ⟨_, rfl, h7.out ▸ h5, hE⟩
    · have hm' : (0 : Int) < (m : Int) := by omega
      have hpos : 0 < M := by rw [← HV.out]; exact HC.out.pos_len (by rw [HM.out]; omega)
      have hhalf := half_any C m c l wr HM.out HC.out hr (by omega)
      rw [HV.out] at hhalf
      by_cases hodd : M % 2 = 1
      · rw [show (M % 2 == 1) = true from by simp [hodd]] at hhalf
        have hP1 := Lib.hid (pow_odd hpow.out hodd)
        go_wp2_with (first
          | (go_at_call 66; with_reducible refine hhalf.mono ?_; rintro e w1 ⟨v1, rfl, hv1, hx1⟩)
          | (go_at_call 26; with_reducible refine (hM _ _ _ o a' (h5.ext hx1) (h0.ext hx1)).mono ?_; rintro e w2 ⟨v2, rfl, hv2, hx2⟩)
          | (go_at_call 26; with_reducible refine (hM _ _ _ a' a' (h0.ext (hx1.trans hx2)) (h0.ext (hx1.trans hx2))).mono ?_; rintro e w3 ⟨v3, rfl, hv3, hx3⟩))
        refine leastN_round (n := M / 2) ?_ (by omega) hx.out
        rw [hR.out]
        exact ⟨_, _, hv3, (hv1.ext (hx2.trans hx3)).mono (by omega), hv2.ext hx3, hE.trans (hx1.trans (hx2.trans hx3)), Nat.mod_lt _ (by have := hP2.out; omega), hP1.out⟩
      · rw [show (M % 2 == 1) = false from by simp [hodd]] at hhalf
        have hP1 := Lib.hid (pow_even hpow.out hodd)
        go_wp2_with (first
          | (go_at_call 66; with_reducible refine hhalf.mono ?_; rintro e w1 ⟨v1, rfl, hv1, hx1⟩)
          | (go_at_call 26; with_reducible refine (hM _ _ _ a' a' (h0.ext hx1) (h0.ext hx1)).mono ?_; rintro e w3 ⟨v3, rfl, hv3, hx3⟩))
        refine leastN_round (n := M / 2) ?_ (by omega) hx.out
        rw [hR.out]
        exact ⟨_, _, hv3, (hv1.ext hx3).mono (by omega), h5.ext (hx1.trans hx3), hE.trans (hx1.trans hx3), ho, hP1.out⟩
end Go.Proofs.Ytndohjgfjbopnaa
