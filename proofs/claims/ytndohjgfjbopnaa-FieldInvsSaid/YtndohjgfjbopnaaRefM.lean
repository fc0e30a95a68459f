/-
  Walks of the document's answer: the inverse and the root.
-/
import Derived.Test.YtndohjgfjbopnaaRefL
set_option linter.unusedSimpArgs false
set_option linter.unusedVariables false
namespace Go.Cv.Dig
theorem dval_par (l : List Nat) : dval l % 2 = dg l 0 % 2 := by
  cases l with
  | nil => rfl
  | cons d l =>
    have e : dg (d :: l) 0 = d := by simp [dg]
    rw [e]; simp only [dval]; omega
end Go.Cv.Dig
namespace Go.Proofs.Ytndohjgfjbopnaa
open Go.RowKit Go.Cv Go.Cv.Dig
theorem p_num (w : World) : Calls Try.prog 56 #[] w fun e w' => ∃ v, e = .returned v ∧ Num w' v (2 ^ 255 - 19) 11 ∧ Ext w w' := by
  refine (p_new w).mono ?_
  rintro e w' ⟨rfl, h, hx⟩
  refine ⟨_, rfl, Num.mk (l := pdig) rfl (Nat.le_refl _) ?_ pdig_canon pdig_val (by decide), hx⟩
  refine Rd.of_cells fun j u hu => ?_
  have hj : j < 11 := by have := (List.getElem?_eq_some_iff.1 hu).1; simpa [pdig] using this
  rw [show (Addr.add ⟨w.heap.size, 0, none⟩ j) = ⟨w.heap.size, j, none⟩ from by unfold Addr.add; split <;> simp_all]
  rw [h j hj, ← hu]
  have hj2 : j < pdig.length := hj
  rw [List.getElem?_map, List.getElem?_eq_getElem hj2, dg_lt hj2]; rfl
theorem less_num (w : World) (v1 v2 : Value) (x y : Nat) (h1 : Num w v1 x 11) (h2 : Num w v2 y 11) (hle : y ≤ x) :
    Calls Try.prog 63 #[v1, v2] w fun e w' => ∃ v, e = .returned v ∧ Num w' v (x - y) 11 ∧ Ext w w' := by
  obtain ⟨A, n, c, l, rfl, hn, hc, hr, hcan, rfl, hl⟩ := h1
  obtain ⟨B, n2, c2, l2, rfl, hn2, hc2, hr2, hcan2, rfl, hl2⟩ := h2
  refine (less_any A B n n2 c c2 l l2 w hn hn2 hcan hcan2 hle hr hr2 (by omega) (by omega)).mono ?_
  rintro e w' ⟨v, rfl, hv, hx⟩
  exact ⟨v, rfl, hv.mono hl, hx⟩
theorem plus_num (w : World) (v1 v2 : Value) (x y : Nat) (h1 : Num w v1 x 11) (h2 : Num w v2 y 11) (hlt : x + y < 16777216 ^ 11) :
    Calls Try.prog 65 #[v1, v2] w fun e w' => ∃ v, e = .returned v ∧ Num w' v (x + y) 11 ∧ Ext w w' := by
  obtain ⟨A, n, c, l, rfl, hn, hc, hr, hcan, rfl, hl⟩ := h1
  obtain ⟨B, n2, c2, l2, rfl, hn2, hc2, hr2, hcan2, rfl, hl2⟩ := h2
  refine (plus_any A B n n2 c c2 l l2 w hn hn2 hcan hcan2 hr hr2 (by omega) (by omega)).mono ?_
  rintro e w' ⟨v, rfl, hv, hx⟩
  exact ⟨v, rfl, hv.short hlt, hx⟩
theorem half_num (w : World) (v1 : Value) (x : Nat) (h1 : Num w v1 x 11) :
    Calls Try.prog 66 #[v1] w fun e w' => ∃ v b, e = .returned (.tuple #[v, .bool b]) ∧ Num w' v (x / 2) 11 ∧ Ext w w' := by
  obtain ⟨A, n, c, l, rfl, hn, hc, hr, hcan, rfl, hl⟩ := h1
  refine (half_any A n c l w hn hcan hr (by omega)).mono ?_
  rintro e w' ⟨v, rfl, hv, hx⟩
  exact ⟨v, _, rfl, hv.mono hl, hx⟩
theorem cmp_num (w : World) (v1 v2 : Value) (x y : Nat) (h1 : Num w v1 x 11) (h2 : Num w v2 y 11) :
    Calls Try.prog 36 #[v1, v2] w fun e w' => ∃ c, e = .returned (.int .i64 c) ∧ (x = y → c = 0) ∧ (x ≠ y → c ≠ 0) ∧ Ext w w' := by
  obtain ⟨A, n, c, l, rfl, hn, hc, hr, hcan, rfl, hl⟩ := h1
  obtain ⟨B, n2, c2, l2, rfl, hn2, hc2, hr2, hcan2, rfl, hl2⟩ := h2
  refine (cmp_any A B n n2 c c2 l l2 w hn hn2 hcan hcan2 hr hr2 (by omega) (by omega)).mono ?_
  rintro e w' ⟨k, rfl, hk, hx⟩
  unfold cmpIs at hk
  exact ⟨k, rfl, by omega, by omega, hx⟩
theorem digit_num (w : World) (v1 : Value) (x : Nat) (h1 : Num w v1 x 11) :
    Calls Try.prog 61 #[v1, .int .i64 0] w fun e w' => ∃ d : Nat, e = .returned (iv d) ∧ d % 2 = x % 2 ∧ d < 16777216 ∧ w' = w := by
  obtain ⟨A, n, c, l, rfl, hn, hc, hr, hcan, rfl, hl⟩ := h1
  refine (digit_zero A n c l w hn hr (by omega)).mono ?_
  rintro e w' ⟨rfl, rfl⟩
  exact ⟨_, rfl, (dval_par l).symm, hcan.1.dg 0, rfl⟩
theorem num_nil (w : World) : Num w (.slice none 0 0) 0 11 := Num.mk (l := []) rfl (Nat.le_refl _) (fun k v h => by simp at h) Canon.nil_ rfl (by decide)

set_option maxHeartbeats 4000000 in
theorem rinv_any (w : World) (va : Value) (a P : Nat) (hP : P = 2 ^ 255 - 19) (ha : Num w va a 11) :
    Calls Try.prog 18 #[va] w fun e w' => ∃ v, e = .returned v ∧ Num w' v (a ^ (P - 2) % P) 11 ∧ Ext w w' := by
  have hp := p_num
  rw [← hP] at hp
  have HP := Lib.hid hP
  have hP2 : 2 ≤ P := by rw [hP]; decide
  clear hP
  go_enter Try.func18, Try.ntmps18
  go_wp2_with (first
    | (go_at_call 56; with_reducible refine (hp _).mono ?_; rintro e w1 ⟨v1, rfl, hv1, hx1⟩)
    | (go_at_call 63; with_reducible refine (less_num _ v1 _ P 2 (hv1.ext (ext_alloc _ _)) (num_2 _ _) hP2).mono ?_; rintro e w2 ⟨v2, rfl, hv2, hx2⟩)
    | (go_at_call 62; with_reducible refine (rpower_any _ va v2 a (P - 2) P HP.out (ha.ext (hx1.trans ((ext_alloc _ _).trans hx2))) hv2).mono ?_; rintro e w3 ⟨v3, rfl, hv3, hx3⟩))
  go_ret
  exact ⟨_, rfl, hv3, hx1.trans ((ext_alloc _ _).trans (hx2.trans hx3))⟩
end Go.Proofs.Ytndohjgfjbopnaa
