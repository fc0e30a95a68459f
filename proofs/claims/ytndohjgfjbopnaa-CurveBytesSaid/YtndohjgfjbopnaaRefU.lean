/-
  The document's answer of layer 7: the base point.
-/
import Derived.Test.YtndohjgfjbopnaaRefT
set_option linter.unusedSimpArgs false
set_option linter.unusedVariables false
namespace Go.Cv
open Go.RowKit Go.Cv.Pr Go.Cv.Grp
theorem ratio_ring {n : Nat} [NeZero n] (a b i y : Fin n) (h1 : b * i = 1) (h2 : y * b = a) : a * i = y := by grind
theorem sq_ring {n : Nat} [NeZero n] (x y d i : Fin n) (h1 : (d * (y * y) + 1) * i = 1) (h : y * y - x * x = 1 + d * (x * x) * (y * y)) : (y * y - 1) * i = x * x := by grind
theorem base_y7 : tf 4 * fiv (tf 5) = B7.y := by
  refine ratio_ring _ (tf 5) _ _ (mul_fiv _ (tf_ne.2 (by decide))) ?_
  have h : Eqp (byN * 5) 4 := by decide +kernel
  have h2 := h.tf
  rw [tf_mul] at h2
  exact h2
theorem base_den : C7.d * (B7.y * B7.y) + 1 ≠ 0 := by
  have h : ¬ Eqp (dN * (byN * byN) + 1) 0 := by decide +kernel
  intro h2
  refine h (tf_eq.1 ?_)
  rw [tf_add, tf_mul, tf_mul, tf_one, tf_zero]
  exact h2
theorem base_x7 : (B7.y * B7.y - 1) * fiv (C7.d * (B7.y * B7.y) + 1) = B7.x * B7.x := sq_ring _ _ _ _ (mul_fiv _ base_den) B7.on
theorem base_even : B7.x.val % 2 = 0 := by decide +kernel
end Go.Cv
namespace Go.Proofs.Ytndohjgfjbopnaa
open Go.RowKit Go.Cv Go.Cv.Pr Go.Cv.Grp Go.Cv.Dig
theorem lit_4 (w : World) (t : TypeId) : NF (w.alloc (.cells #[.int .i64 4] t)) (.slice (some ⟨w.heap.size, 0, none⟩) 1 1) (tf 4) := NF.lit 4 (by decide) (by decide) w t
theorem lit_5 (w : World) (t : TypeId) : NF (w.alloc (.cells #[.int .i64 5] t)) (.slice (some ⟨w.heap.size, 0, none⟩) 1 1) (tf 5) := NF.lit 5 (by decide) (by decide) w t
theorem nbx {w : World} {v1 : Value} (h1 : NF w v1 B7.y) :
    Calls Try.prog 75 #[v1] w fun e w' => ∃ v, e = .returned (.tuple #[v, .bool true]) ∧ NF w' v B7.x ∧ Ext w w' := by
  refine (nxof h1).mono ?_
  rintro e w' ⟨v, rfl, h2, hx⟩
  rw [base_x7] at h2 ⊢
  rw [okF_sq rfl] at h2 ⊢
  have h3 := h2 rfl
  rw [rtF_is rfl base_even] at h3
  exact ⟨v, rfl, h3, hx⟩
set_option maxHeartbeats 8000000
set_option maxRecDepth 20000
theorem rbase (w : World) :
    Calls Try.prog 32 #[] w fun e w' => e = .returned (.agg (pc (fb B7.x) (fb B7.y))) ∧ Ext w w' := by
  have l4 := lit_4
  have l5 := lit_5
  have hy := base_y7
  have hX := @nbx
  generalize B7.y = y at *
  generalize B7.x = x at *
  generalize tf 4 = a at *
  generalize tf 5 = b at *
  replace hy := Lib.hid hy
  go_enter Try.func32, Try.ntmps32
  go_upto_region 1 with fail
  obtain ⟨W0, hW0⟩ : ∃ W0, W0 = w.alloc (.cells (pc (fun _ => 0) (fun _ => 0)) 43) := ⟨_, rfl⟩
  obtain ⟨n, hn⟩ : ∃ n, n = w.heap.size := ⟨_, rfl⟩
  rw [← hW0, ← hn]
  have hR : rdP W0 n (fun _ => 0) (fun _ => 0) := by rw [hW0, hn]; exact rdP.new _ _ _ _
  have hx0 : Ext w W0 := by rw [hW0]; exact ext_alloc _ _
  have hnw : w.heap.size ≤ n := by omega
  clear hW0 hn
  have l5' : ∀ (w : World) (o : Obj) (t : TypeId), NF ((w.alloc o).alloc (.cells #[.int .i64 5] t)) (.slice (some ⟨w.heap.size + 1, 0, none⟩) 1 1) b := fun w o t => by
    have h := l5 (w.alloc o) t
    have e : (w.alloc o).heap.size = w.heap.size + 1 := Array.size_push _
    rwa [e] at h
  go_wp2_with (first
    | (go_at_call 74; with_reducible refine (nratio ((l4 W0 _).ext (ext_alloc _ _)) (l5' W0 _ _)).mono ?_; rintro e w1 ⟨v1, rfl, hv1, hx1⟩; rw [hy.out] at hv1)
    | (go_at_call 75; with_reducible refine (hX hv1).mono ?_; rintro e w2 ⟨v2, rfl, hv2, hx2⟩)
    | (go_at_call 17; with_reducible refine (nbytes hv2).mono ?_; rintro e w3 ⟨rfl, hx3⟩)
    | (go_at_call 17; with_reducible refine (nbytes (hv1.ext (hx2.trans hx3))).mono ?_; rintro e w4 ⟨rfl, hx4⟩; have hxx := (ext_alloc W0 _).trans ((ext_alloc _ _).trans (hx1.trans (hx2.trans (hx3.trans hx4)))); have hR4 := rdP.ext hxx hR; have o4 := rdP_opt hR4))
  obtain ⟨t, hc, h64⟩ := ptOpt_some hR4
  obtain ⟨fs, hu⟩ := uPt
  exact bodyPost_ret (results_cell_row (p := 0) (ty := 43) rfl _ _ n _ _ (0, 0) _ rfl (setRow_heap w4 n _ _ _ (0, 0) hc) hu rfl (by rw [pc_size]; exact iPt)) rfl ⟨rfl, Ext.keep_ (ns := [n]) (hx0.trans hxx) ⟨rfl, rfl, rfl, by simp [World.setRow], fun k _ hk => setRow_other w4 n k _ (by simpa using hk)⟩ (by simpa using hnw)⟩
end Go.Proofs.Ytndohjgfjbopnaa
