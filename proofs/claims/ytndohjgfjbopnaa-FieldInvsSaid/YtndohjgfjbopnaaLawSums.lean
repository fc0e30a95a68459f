/-
  The walk of the statement FieldSums.
-/
import Derived.Test.YtndohjgfjbopnaaLaws
import Derived.Test.YtndohjgfjbopnaaRefN
set_option linter.unusedSimpArgs false
set_option linter.unusedVariables false
namespace Go.Proofs.Ytndohjgfjbopnaa
open Go.RowKit Go.Cv Go.Cv.Dig
theorem bytes_num (w : World) (v : Value) (x : Nat) (h : Num w v x 11) :
    Calls Try.prog 17 #[v] w fun e w' => e = .returned (.agg (bcells (nb x))) ∧ Ext w w' := by
  obtain ⟨A, n, c, l, rfl, hn, hc, hr, hcan, rfl, hl⟩ := h
  exact bytes_any A n c l w hn hcan.1 hr (by omega)

set_option maxRecDepth 8000 in
set_option maxHeartbeats 40000000 in
theorem sums_walk (f g : Nat → UInt8) (w0 : World) (x y s d m : Nat)
    (hX : ∀ w, Calls Try.prog 15 #[.agg (bcells f)] w fun e w' => ∃ v, e = .returned v ∧ Num w' v x 11 ∧ Ext w w')
    (hY : ∀ w, Calls Try.prog 15 #[.agg (bcells g)] w fun e w' => ∃ v, e = .returned v ∧ Num w' v y 11 ∧ Ext w w')
    (hS : ∀ w v1 v2, Num w v1 x 11 → Num w v2 y 11 → Calls Try.prog 22 #[v1, v2] w fun e w' => ∃ v, e = .returned v ∧ Num w' v s 11 ∧ Ext w w')
    (hD : ∀ w v1 v2, Num w v1 x 11 → Num w v2 y 11 → Calls Try.prog 24 #[v1, v2] w fun e w' => ∃ v, e = .returned v ∧ Num w' v d 11 ∧ Ext w w')
    (hM : ∀ w v1 v2, Num w v1 x 11 → Num w v2 y 11 → Calls Try.prog 26 #[v1, v2] w fun e w' => ∃ v, e = .returned v ∧ Num w' v m 11 ∧ Ext w w')
    (e1 : beqb (ob (V f + V g)) (nb s) = true) (e2 : beqb (ob (V f + negp (V g))) (nb d) = true) (e3 : beqb (ob (V f * V g)) (nb m) = true) (e4 : beqb (ob (V f)) (nb x) = true) :
    Calls Try.prog 5 #[.agg (bcells f), .agg (bcells g)] w0 fun e w' => e = .returned (.bool true) ∧ Ext w0 w' := by
  go_enter Try.func5, Try.ntmps5
  go_upto_region 1 with fail
  obtain ⟨wc, hW⟩ : ∃ W, W = ((w0.alloc (.cells (bcells f) 22)).alloc (.cells (bcells g) 22)) := ⟨_, rfl⟩
  rw [← hW]
  have h3 : rdB wc w0.heap.size f := by rw [hW]; exact (rdB.new _ _ _).ext (ext_alloc _ _)
  have h4 : rdB wc (w0.heap.size + 1) g := by rw [hW]; exact rdB.new_ _ _ _ (by simp)
  have HE : Ext w0 wc := by rw [hW]; exact (ext_alloc _ _).trans (ext_alloc _ _)
  clear hW
  go_cut [5] from 11 to 11 (fun p wx => p = .bool true ∧ Ext wc wx)
  case first =>
    go_wp2_with (go_at_call 13; with_reducible refine (shown_any _).mono ?_; rintro e w' ⟨rfl, hx⟩)
    go_meet
    case rel => exact ⟨rfl, hx⟩
  case rest =>
  obtain ⟨rfl, hx⟩ := hcut
  replace h3 := rdB.ext hx h3
  replace h4 := rdB.ext hx h4
  replace HE := HE.trans hx
  clear hx
  go_upto_region 2 with fail
  go_cut [6] from 12 to 13 (fun p wx => Num wx p x 11 ∧ Ext wc wx)
  case first =>
    have o3 := rdB_opt h3
    go_wp2_with (go_at_call 15; with_reducible refine (hX _).mono ?_; rintro e w' ⟨v, rfl, hv, hx⟩)
    go_meet
    case rel => exact ⟨hv, hx⟩
  case rest =>
  obtain ⟨hvx, hx⟩ := hcut
  replace h3 := rdB.ext hx h3
  replace h4 := rdB.ext hx h4
  replace HE := HE.trans hx
  clear hx
  go_upto_region 3 with fail
  go_cut [7] from 14 to 15 (fun p wx => Num wx p y 11 ∧ Ext wc wx)
  case first =>
    have o3 := rdB_opt h4
    go_wp2_with (go_at_call 15; with_reducible refine (hY _).mono ?_; rintro e w' ⟨v, rfl, hv, hx⟩)
    go_meet
    case rel => exact ⟨hv, hx⟩
  case rest =>
  obtain ⟨hvy, hx⟩ := hcut
  replace h3 := rdB.ext hx h3
  replace h4 := rdB.ext hx h4
  replace hvx := hvx.ext hx
  replace HE := HE.trans hx
  clear hx
  go_upto_region 4 with fail
  go_cut [8] from 16 to 23 (fun p wx => p = .bool true ∧ Ext wc wx)
  case first =>
    have o3 := rdB_opt h3
    have o4 := rdB_opt h4
    go_wp2_with (first
      | (go_at_call 21; with_reducible refine (fadd_any f g _).mono ?_; rintro e w1 ⟨rfl, hx1⟩)
      | (go_at_call 22; with_reducible refine (hS _ _ _ (hvx.ext hx1) (hvy.ext hx1)).mono ?_; rintro e w2 ⟨v2, rfl, hv2, hx2⟩)
      | (go_at_call 17; with_reducible refine (bytes_num _ _ _ hv2).mono ?_; rintro e w3 ⟨rfl, hx3⟩))
    go_meet
    case rel => exact ⟨rfl, hx1.trans (hx2.trans hx3)⟩
  case rest =>
  obtain ⟨rfl, hx⟩ := hcut
  replace h3 := rdB.ext hx h3
  replace h4 := rdB.ext hx h4
  replace hvx := hvx.ext hx
  replace hvy := hvy.ext hx
  replace HE := HE.trans hx
  clear hx
  go_upto_region 5 with fail
  go_cut [9] from 24 to 31 (fun p wx => p = .bool true ∧ Ext wc wx)
  case first =>
    have o3 := rdB_opt h3
    have o4 := rdB_opt h4
    go_wp2_with (first
      | (go_at_call 23; with_reducible refine (fsub_any f g _).mono ?_; rintro e w1 ⟨rfl, hx1⟩)
      | (go_at_call 24; with_reducible refine (hD _ _ _ (hvx.ext hx1) (hvy.ext hx1)).mono ?_; rintro e w2 ⟨v2, rfl, hv2, hx2⟩)
      | (go_at_call 17; with_reducible refine (bytes_num _ _ _ hv2).mono ?_; rintro e w3 ⟨rfl, hx3⟩))
    go_meet
    case rel => exact ⟨rfl, hx1.trans (hx2.trans hx3)⟩
  case rest =>
  obtain ⟨rfl, hx⟩ := hcut
  replace h3 := rdB.ext hx h3
  replace h4 := rdB.ext hx h4
  replace hvx := hvx.ext hx
  replace hvy := hvy.ext hx
  replace HE := HE.trans hx
  clear hx
  go_upto_region 6 with fail
  go_cut [10] from 32 to 39 (fun p wx => p = .bool true ∧ Ext wc wx)
  case first =>
    have o3 := rdB_opt h3
    have o4 := rdB_opt h4
    go_wp2_with (first
      | (go_at_call 25; with_reducible refine (fmul_any f g _).mono ?_; rintro e w1 ⟨rfl, hx1⟩)
      | (go_at_call 26; with_reducible refine (hM _ _ _ (hvx.ext hx1) (hvy.ext hx1)).mono ?_; rintro e w2 ⟨v2, rfl, hv2, hx2⟩)
      | (go_at_call 17; with_reducible refine (bytes_num _ _ _ hv2).mono ?_; rintro e w3 ⟨rfl, hx3⟩))
    go_meet
    case rel => exact ⟨rfl, hx1.trans (hx2.trans hx3)⟩
  case rest =>
  obtain ⟨rfl, hx⟩ := hcut
  replace h3 := rdB.ext hx h3
  replace h4 := rdB.ext hx h4
  replace hvx := hvx.ext hx
  replace hvy := hvy.ext hx
  replace HE := HE.trans hx
  clear hx
  have o3 := rdB_opt h3
  go_wp2_with (first
    | (go_at_call 27; with_reducible refine (reduce_any f _).mono ?_; rintro e w1 ⟨rfl, hx1⟩)
    | (go_at_call 17; with_reducible refine (bytes_num _ _ _ (hvx.ext hx1)).mono ?_; rintro e w3 ⟨rfl, hx3⟩))
  go_ret
  exact ⟨rfl, HE.trans (hx1.trans hx3)⟩
end Go.Proofs.Ytndohjgfjbopnaa
