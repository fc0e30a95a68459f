/-
  The walk of the statement CurveIs.
-/
import Derived.Test.YtndohjgfjbopnaaRefU
import Derived.Test.YtndohjgfjbopnaaArgs
import Derived.Test.YtndohjgfjbopnaaArga
set_option linter.unusedSimpArgs false
set_option linter.unusedVariables false
namespace Go.Proofs.Ytndohjgfjbopnaa
open Go.RowKit Go.Cv Go.Cv.Pr Go.Cv.Grp Go.Cv.Dig
set_option maxRecDepth 20000 in
set_option maxHeartbeats 4000000 in
theorem cis_any (f g : Nat → UInt8) (w : World) :
    Calls Try.prog 7 #[.agg (pc f g)] w fun e w' => e = .returned (.bool true) ∧ Ext w w' := by
  have hA := is_any f g
  have hB := ris f g
  have hP := base_any
  have hQ := rbase
  generalize (decide (tf (V g) * tf (V g) - tf (V f) * tf (V f) = 1 + C7.d * (tf (V f) * tf (V f)) * (tf (V g) * tf (V g)))) = b at *
  generalize fb B7.x = k at *
  generalize fb B7.y = l at *
  go_enter Try.func7, Try.ntmps7
  go_upto_region 1 with fail
  obtain ⟨W0, hW0⟩ : ∃ W0, W0 = w.alloc (.cells (pc f g) 43) := ⟨_, rfl⟩
  obtain ⟨n, hn⟩ : ∃ n, n = w.heap.size := ⟨_, rfl⟩
  rw [← hW0, ← hn]
  have h1 : rdP W0 n f g := by rw [hW0, hn]; exact rdP.new _ _ _ _
  have HE : Ext w W0 := by rw [hW0]; exact ext_alloc _ _
  clear hW0 hn
  go_cut [3] from 6 to 6 (fun p wx => p = .bool true ∧ Ext W0 wx)
  case first =>
    go_wp2_with (go_at_call 28; with_reducible refine (shown7_any _).mono ?_; rintro e w' ⟨rfl, hx⟩)
    go_meet
    case rel => exact ⟨rfl, hx⟩
  case rest =>
  obtain ⟨rfl, hx⟩ := hcut
  replace h1 := rdP.ext hx h1
  replace HE := HE.trans hx
  clear hx
  go_upto_region 2 with fail
  go_cut [4] from 7 to 8 (fun p wx => p = .bool b ∧ Ext wc wx)
  case first =>
    have e1 := rdP_opt h1
    go_wp2_with (go_at_call 29; with_reducible refine (hA _).mono ?_; rintro e w' ⟨rfl, hx⟩)
    go_meet
    case rel => exact ⟨rfl, hx⟩
  case rest =>
  obtain ⟨rfl, hx⟩ := hcut
  replace h1 := rdP.ext hx h1
  replace HE := HE.trans hx
  clear hx
  go_upto_region 3 with fail
  go_cut [5] from 9 to 9 (fun p wx => ∃ n : Nat, p = .pointer (some ⟨n, 0, none⟩) ∧ rdP wx n k l ∧ Ext wc wx)
  case first =>
    go_wp2_with (go_at_call 30; with_reducible refine (hP _).mono ?_; rintro e w' ⟨rfl, hx⟩; obtain ⟨l', rfl⟩ := grw_of_ext hx; clear hx)
    go_meet
    case rel => exact ⟨_, rfl, rdP.new_ _ _ _ _ rfl, (grw_ext _ _).trans (ext_alloc _ _)⟩
  case rest =>
  obtain ⟨n5, rfl, h5, hx⟩ := hcut
  replace h1 := rdP.ext hx h1
  replace HE := HE.trans hx
  clear hx
  go_upto_region 4 with fail
  refine wp_region_sure (fun w' => Ext wc w') (by kernel_rfl) (ext_drew _) ?_
  refine wpAnyS_go (i := 0) (some 10) (v := ?_) rfl rfl (by kernel_rfl) (by kernel_rfl) (by kernel_rfl) (fun _ _ _ h => h) (.inl ⟨by rfl, fun w hS => ?_⟩) ?_
  rotate_left
  · (try go_simp)
    refine ⟨?_, hS⟩
    with_reducible rfl
  simp only [Act.put, List.setIfInBounds_toArray, List.set_cons_zero, List.set_cons_succ]
  refine wpAnyS_go (i := 1) (some 11) (v := ?_) rfl rfl (by kernel_rfl) (by kernel_rfl) (by kernel_rfl) (fun _ _ _ h => h) (.inl ⟨by rfl, fun w hS => ?_⟩) ?_
  rotate_left
  · (try go_simp)
    refine ⟨?_, hS⟩
    with_reducible rfl
  simp only [Act.put, List.setIfInBounds_toArray, List.set_cons_zero, List.set_cons_succ]
  refine wpAnyS_go (i := 2) (some 12) (v := ?_) rfl rfl (by kernel_rfl) (by kernel_rfl) (by kernel_rfl) (fun _ _ _ h => h) (.inl ⟨by rfl, fun w hS => ?_⟩) ?_
  rotate_left
  · (try go_simp)
    refine ⟨?_, hS⟩
    with_reducible rfl
  simp only [Act.put, List.setIfInBounds_toArray, List.set_cons_zero, List.set_cons_succ]
  refine wpAnyS_go (i := 3) (some 13) (v := ?_) rfl rfl (by kernel_rfl) (by kernel_rfl) (by kernel_rfl) (fun _ _ _ h => h) (.inl ⟨by rfl, fun w hS => ?_⟩) ?_
  rotate_left
  · have e1 := rdP_opt (rdP.ext hS h1)
    (try go_simp)
    refine ⟨?_, hS⟩
    with_reducible rfl
  simp only [Act.put, List.setIfInBounds_toArray, List.set_cons_zero, List.set_cons_succ]
  refine wpAnyS_go (i := 4) (some 14) (v := ?_) rfl rfl (by kernel_rfl) (by kernel_rfl) (by kernel_rfl) (fun _ _ _ h => h) (.inl ⟨by rfl, fun w hS => ?_⟩) ?_
  rotate_left
  · go_simp
    change Calls _ _ _ _ _
    refine Calls.mono (hB _) ?_
    rintro e w' ⟨rfl, hx⟩
    refine ⟨?_, hS.trans hx⟩
    with_reducible rfl
  simp only [Act.put, List.setIfInBounds_toArray, List.set_cons_zero, List.set_cons_succ]
  refine wpAnyS_go (i := 5) (some 15) (v := ?_) rfl rfl (by kernel_rfl) (by kernel_rfl) (by kernel_rfl) (fun _ _ _ h => h) (.inl ⟨by rfl, fun w hS => ?_⟩) ?_
  rotate_left
  · (try go_simp)
    refine ⟨?_, hS⟩
    with_reducible rfl
  simp only [Act.put, List.setIfInBounds_toArray, List.set_cons_zero, List.set_cons_succ]
  refine wpAnyS_go (i := 6) (some 16) (v := ?_) rfl rfl (by kernel_rfl) (by kernel_rfl) (by kernel_rfl) (fun _ _ _ h => h) (.inl ⟨by rfl, fun w hS => ?_⟩) ?_
  rotate_left
  · (try go_simp)
    refine ⟨?_, hS⟩
    with_reducible rfl
  simp only [Act.put, List.setIfInBounds_toArray, List.set_cons_zero, List.set_cons_succ]
  refine wpAnyS_go (i := 7) (some 17) (v := ?_) rfl rfl (by kernel_rfl) (by kernel_rfl) (by kernel_rfl) (fun _ _ _ h => h) (.inl ⟨by rfl, fun w hS => ?_⟩) ?_
  rotate_left
  · (try go_simp)
    refine ⟨?_, hS⟩
    with_reducible rfl
  simp only [Act.put, List.setIfInBounds_toArray, List.set_cons_zero, List.set_cons_succ]
  refine wpAnyS_go (i := 8) (some 18) (v := ?_) rfl rfl (by kernel_rfl) (by kernel_rfl) (by kernel_rfl) (fun _ _ _ h => h) (.inl ⟨by rfl, fun w hS => ?_⟩) ?_
  rotate_left
  · have e1 := rdP_opt (rdP.ext hS h5)
    (try go_simp)
    refine ⟨?_, hS⟩
    with_reducible rfl
  simp only [Act.put, List.setIfInBounds_toArray, List.set_cons_zero, List.set_cons_succ]
  refine wpAnyS_go (i := 9) (some 19) (v := ?_) rfl rfl (by kernel_rfl) (by kernel_rfl) (by kernel_rfl) (fun _ _ _ h => h) (.inl ⟨by rfl, fun w hS => ?_⟩) ?_
  rotate_left
  · go_simp
    change Calls _ _ _ _ _
    refine Calls.mono (hQ _) ?_
    rintro e w' ⟨rfl, hx⟩
    refine ⟨?_, hS.trans hx⟩
    with_reducible rfl
  simp only [Act.put, List.setIfInBounds_toArray, List.set_cons_zero, List.set_cons_succ]
  refine wpAnyS_go (i := 10) (some 20) (v := ?_) rfl rfl (by kernel_rfl) (by kernel_rfl) (by kernel_rfl) (fun _ _ _ h => h) (.inl ⟨by rfl, fun w hS => ?_⟩) ?_
  rotate_left
  · (try go_simp)
    refine ⟨?_, hS⟩
    with_reducible rfl
  simp only [Act.put, List.setIfInBounds_toArray, List.set_cons_zero, List.set_cons_succ]
  refine wpAnyS_go (i := 11) (some 21) (v := ?_) rfl rfl (by kernel_rfl) (by kernel_rfl) (by kernel_rfl) (fun _ _ _ h => h) (.inl ⟨by rfl, fun w hS => ?_⟩) ?_
  rotate_left
  · (try go_simp)
    refine ⟨?_, hS⟩
    with_reducible rfl
  simp only [Act.put, List.setIfInBounds_toArray, List.set_cons_zero, List.set_cons_succ]
  refine wpAnyS_go (i := 12) (some 2) (v := ?_) rfl rfl (by kernel_rfl) (by kernel_rfl) (by kernel_rfl) (fun _ _ _ h => h) (.inl ⟨by rfl, fun w hS => ?_⟩) ?_
  rotate_left
  · (try go_simp)
    refine ⟨?_, hS⟩
    with_reducible rfl
  simp only [Act.put, List.setIfInBounds_toArray, List.set_cons_zero, List.set_cons_succ]
  refine wpAnyS_done (by kernel_rfl) fun w hS => ?_
  go_wp2
  go_ret
  exact ⟨rfl, HE.trans hS⟩
end Go.Proofs.Ytndohjgfjbopnaa
