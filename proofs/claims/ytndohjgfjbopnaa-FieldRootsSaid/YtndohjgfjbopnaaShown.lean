/-
  The head of all statements of layer 6: the shown examples.
-/
import Derived.Test.YtndohjgfjbopnaaNums
set_option linter.unusedSimpArgs false
set_option linter.unusedVariables false
namespace Go.Cv
open Go.RowKit
theorem ob_pI (a : Nat) : ob (pI a) = nb (ivr a) := rfl
theorem rdB_opt {W : World} {n : Nat} {f : Nat → UInt8} (h : rdB W n f) : rowOpt W n = some (bcells f) := by
  obtain ⟨⟨c, t, hc, h32⟩, hr⟩ := h
  have hr2 : rowOf W n = c := by unfold rowOf; rw [hc]
  rw [hr2] at hr
  subst hr
  unfold rowOpt
  rw [hc]
  simp
end Go.Cv
namespace Go.Proofs.Ytndohjgfjbopnaa
open Go.RowKit Go.Cv Go.Cv.Dig
theorem small_0 (w : World) : Calls Try.prog 16 #[.int .u8 0] w fun e w' => e = .returned (.agg (bcells (nb 0))) ∧ Ext w w' :=
  (small_any 0 w).mono fun e w' h => by rw [sm_nb] at h; exact h
theorem small_1 (w : World) : Calls Try.prog 16 #[.int .u8 1] w fun e w' => e = .returned (.agg (bcells (nb 1))) ∧ Ext w w' :=
  (small_any 1 w).mono fun e w' h => by rw [sm_nb] at h; exact h
theorem small_2 (w : World) : Calls Try.prog 16 #[.int .u8 2] w fun e w' => e = .returned (.agg (bcells (nb 2))) ∧ Ext w w' :=
  (small_any 2 w).mono fun e w' h => by rw [sm_nb] at h; exact h
theorem small_4 (w : World) : Calls Try.prog 16 #[.int .u8 4] w fun e w' => e = .returned (.agg (bcells (nb 4))) ∧ Ext w w' :=
  (small_any 4 w).mono fun e w' h => by rw [sm_nb] at h; exact h
theorem bytes_p (A : Option Addr) (c : Nat) (w : World) (hA : Rd w A (pdig.map iv)) : Calls Try.prog 17 #[.slice A 11 c] w fun e w' => e = .returned (.agg (bcells (nb (dval pdig)))) ∧ Ext w w' :=
  bytes_any A 11 c pdig w rfl pdig_canon.1 hA (by decide)
theorem inv_2 (w : World) : Calls Try.prog 14 #[.agg (bcells (nb 2))] w fun e w' => e = .returned (.tuple #[.agg (bcells (nb (ivr 2))), .nilIface]) ∧ Ext w w' := by
  have h := finv_some (nb 2) (by rw [V_nb (by decide)]; decide) w
  rw [V_nb (by decide), ob_pI] at h
  exact h
theorem inv_p (w : World) : Calls Try.prog 14 #[.agg (bcells (nb (dval pdig)))] w fun e w' => e = .returned (.tuple #[.agg (bcells fun _ => 0), errZero]) ∧ Ext w w' :=
  finv_zero (nb (dval pdig)) (by rw [pdig_val, V_nb (by decide)]) w
theorem root_4 (w : World) : Calls Try.prog 19 #[.agg (bcells (nb 4))] w fun e w' => e = .returned (.tuple #[.agg (bcells (nb 2)), .nilIface]) ∧ Ext w w' := by
  have h := froot_ok (nb 4) (by rw [V_nb (by decide)]; exact rtOk_4) w
  rw [V_nb (by decide), rtv_4] at h
  exact h
theorem root_2 (w : World) : Calls Try.prog 19 #[.agg (bcells (nb 2))] w fun e w' => e = .returned (.tuple #[.agg (bcells fun _ => 0), errNone]) ∧ Ext w w' :=
  froot_no (nb 2) (by rw [V_nb (by decide)]; exact rtOk_2) w
theorem reduce_p (w : World) : Calls Try.prog 27 #[.agg (bcells (nb (dval pdig)))] w fun e w' => e = .returned (.agg (bcells (nb 0))) ∧ Ext w w' := by
  have h := reduce_any (nb (dval pdig)) w
  rw [pdig_val, V_nb (by decide)] at h
  rw [pdig_val]
  exact h
theorem mul_x (a b : Nat) (ha : a < 2 ^ 256) (hb : b < 2 ^ 256) (hm : ob (a * b) = nb 1) (w : World) : Calls Try.prog 25 #[.agg (bcells (nb a)), .agg (bcells (nb b))] w fun e w' => e = .returned (.agg (bcells (nb 1))) ∧ Ext w w' := by
  have h := fmul_any (nb a) (nb b) w
  rw [V_nb ha, V_nb hb, hm] at h
  exact h
theorem ivr_lt (a : Nat) : ivr a < 2 ^ 256 := Nat.lt_trans (Nat.mod_lt _ (by decide)) (by decide)
theorem mul_22 (w : World) : Calls Try.prog 25 #[.agg (bcells (nb 2)), .agg (bcells (nb (ivr 2)))] w fun e w' => e = .returned (.agg (bcells (nb 1))) ∧ Ext w w' :=
  mul_x 2 (ivr 2) (by decide) (ivr_lt 2) mul_i2 w

set_option maxRecDepth 4000 in
set_option maxHeartbeats 4000000 in
theorem shown_any (w : World) :
    Calls Try.prog 13 #[] w fun e w' => e = .returned (.bool true) ∧ Ext w w' := by
  go_enter Try.func13, Try.ntmps13
  go_upto_region 1 with fail
  have HE : Ext w w := Ext.refl w
  go_cut [1] from 10 to 11 (fun p1 wx => ∃ n : Nat, p1 = .pointer (some ⟨n, 0, none⟩) ∧ rdB wx n (nb (dval pdig)) ∧ Ext w wx)
  case first =>
    go_wp2_with (first | (go_at_call 56; with_reducible refine (p_any _).mono ?_; rintro e w' ⟨A, c, rfl, hA, hx⟩; obtain ⟨l', rfl⟩ := grw_of_ext hx; clear hx) | (go_at_call 17; with_reducible refine (bytes_p _ _ _ hA).mono ?_; rintro e w' ⟨rfl, hx⟩; obtain ⟨l', rfl⟩ := grw_of_ext hx; clear hx))
    go_meet
    case rel => exact ⟨_, rfl, rdB.new_ _ _ _ rfl, (grw_ext _ _).trans (ext_alloc _ _)⟩
  case rest =>
  obtain ⟨n1, rfl, h1, hx⟩ := hcut
  replace HE := HE.trans hx
  clear hx
  go_upto_region 2 with fail
  go_cut [2, 3] from 12 to 16 (fun p2 p3 wx => ∃ n : Nat, p2 = .pointer (some ⟨n, 0, none⟩) ∧ p3 = .nilIface ∧ rdB wx n (nb (ivr 2)) ∧ Ext wc wx)
  case first =>
    go_wp2_with (first | (go_at_call 16; with_reducible refine (small_2 _).mono ?_; rintro e w' ⟨rfl, hx⟩; obtain ⟨l', rfl⟩ := grw_of_ext hx; clear hx) | (go_at_call 14; with_reducible refine (inv_2 _).mono ?_; rintro e w' ⟨rfl, hx⟩; obtain ⟨l', rfl⟩ := grw_of_ext hx; clear hx))
    go_meet
    case rel => exact ⟨_, rfl, rfl, rdB.new_ _ _ _ rfl, (grw_ext _ _).trans (ext_alloc _ _)⟩
  case rest =>
  obtain ⟨n2, rfl, rfl, h2, hx⟩ := hcut
  replace h1 := rdB.ext hx h1
  replace HE := HE.trans hx
  clear hx
  have e1 := rdB_opt h1
  have s1 := h1.lt
  go_upto_region 3 with fail
  go_cut [4, 5] from 17 to 21 (fun p4 p5 wx => ∃ n : Nat, p4 = .pointer (some ⟨n, 0, none⟩) ∧ p5 = errZero ∧ rdB wx n (fun _ => 0) ∧ Ext wc wx)
  case first =>
    go_wp2_with (go_at_call 14; with_reducible refine (inv_p _).mono ?_; rintro e w' ⟨rfl, hx⟩; obtain ⟨l', rfl⟩ := grw_of_ext hx; clear hx)
    go_meet
    case rel => exact ⟨_, rfl, rfl, rdB.new_ _ _ _ rfl, (grw_ext _ _).trans (ext_alloc _ _)⟩
  case rest =>
  obtain ⟨n4, rfl, rfl, h4, hx⟩ := hcut
  replace h1 := rdB.ext hx h1
  replace h2 := rdB.ext hx h2
  replace HE := HE.trans hx
  clear hx
  clear e1 s1 h4
  go_upto_region 4 with fail
  go_cut [6, 7] from 22 to 26 (fun p6 p7 wx => ∃ n : Nat, p6 = .pointer (some ⟨n, 0, none⟩) ∧ p7 = .nilIface ∧ rdB wx n (nb 2) ∧ Ext wc wx)
  case first =>
    go_wp2_with (first | (go_at_call 16; with_reducible refine (small_4 _).mono ?_; rintro e w' ⟨rfl, hx⟩; obtain ⟨l', rfl⟩ := grw_of_ext hx; clear hx) | (go_at_call 19; with_reducible refine (root_4 _).mono ?_; rintro e w' ⟨rfl, hx⟩; obtain ⟨l', rfl⟩ := grw_of_ext hx; clear hx))
    go_meet
    case rel => exact ⟨_, rfl, rfl, rdB.new_ _ _ _ rfl, (grw_ext _ _).trans (ext_alloc _ _)⟩
  case rest =>
  obtain ⟨n6, rfl, rfl, h6, hx⟩ := hcut
  replace h1 := rdB.ext hx h1
  replace h2 := rdB.ext hx h2
  replace HE := HE.trans hx
  clear hx
  go_upto_region 5 with fail
  go_cut [8, 9] from 27 to 31 (fun p8 p9 wx => ∃ n : Nat, p8 = .pointer (some ⟨n, 0, none⟩) ∧ p9 = errNone ∧ rdB wx n (fun _ => 0) ∧ Ext wc wx)
  case first =>
    go_wp2_with (first | (go_at_call 16; with_reducible refine (small_2 _).mono ?_; rintro e w' ⟨rfl, hx⟩; obtain ⟨l', rfl⟩ := grw_of_ext hx; clear hx) | (go_at_call 19; with_reducible refine (root_2 _).mono ?_; rintro e w' ⟨rfl, hx⟩; obtain ⟨l', rfl⟩ := grw_of_ext hx; clear hx))
    go_meet
    case rel => exact ⟨_, rfl, rfl, rdB.new_ _ _ _ rfl, (grw_ext _ _).trans (ext_alloc _ _)⟩
  case rest =>
  obtain ⟨n8, rfl, rfl, h8, hx⟩ := hcut
  replace h1 := rdB.ext hx h1
  replace h2 := rdB.ext hx h2
  replace h6 := rdB.ext hx h6
  replace HE := HE.trans hx
  clear hx
  clear h8
  go_upto_region 6 with fail
  refine wp_region_sure (fun w' => Ext wc w') (by kernel_rfl) (ext_drew _) ?_
  refine wpAnyS_go (i := 0) (some 32) (v := ?_) rfl rfl (by kernel_rfl) (by kernel_rfl) (by kernel_rfl) (fun _ _ _ h => h) (.inl ⟨by rfl, fun w hS => ?_⟩) ?_
  rotate_left
  · have e1 := rdB_opt (rdB.ext hS h1)
    go_simp
    refine ⟨?_, hS⟩
    with_reducible rfl
  simp only [Act.put, List.setIfInBounds_toArray, List.set_cons_zero, List.set_cons_succ]
  refine wpAnyS_go (i := 1) (some 33) (v := ?_) rfl rfl (by kernel_rfl) (by kernel_rfl) (by kernel_rfl) (fun _ _ _ h => h) (.inl ⟨by rfl, fun w hS => ?_⟩) ?_
  rotate_left
  · go_simp
    change Calls _ _ _ _ _
    refine Calls.mono (reduce_p _) ?_
    rintro e w' ⟨rfl, hx⟩
    refine ⟨?_, hS.trans hx⟩
    with_reducible rfl
  simp only [Act.put, List.setIfInBounds_toArray, List.set_cons_zero, List.set_cons_succ]
  refine wpAnyS_go (i := 2) (some 34) (v := ?_) rfl rfl (by kernel_rfl) (by kernel_rfl) (by kernel_rfl) (fun _ _ _ h => h) (.inl ⟨by rfl, fun w hS => ?_⟩) ?_
  rotate_left
  · go_simp
    change Calls _ _ _ _ _
    refine Calls.mono (small_0 _) ?_
    rintro e w' ⟨rfl, hx⟩
    refine ⟨?_, hS.trans hx⟩
    with_reducible rfl
  simp only [Act.put, List.setIfInBounds_toArray, List.set_cons_zero, List.set_cons_succ]
  refine wpAnyS_go (i := 3) (some 35) (v := ?_) rfl rfl (by kernel_rfl) (by kernel_rfl) (by kernel_rfl) (fun _ _ _ h => h) (.inl ⟨by rfl, fun w hS => ?_⟩) ?_
  rotate_left
  · (try go_simp)
    refine ⟨?_, hS⟩
    with_reducible rfl
  simp only [Act.put, List.setIfInBounds_toArray, List.set_cons_zero, List.set_cons_succ]
  refine wpAnyS_go (i := 4) (some 36) (v := ?_) rfl rfl (by kernel_rfl) (by kernel_rfl) (by kernel_rfl) (fun _ _ _ h => h) (.inl ⟨by rfl, fun w hS => ?_⟩) ?_
  rotate_left
  · (try go_simp)
    refine ⟨?_, hS⟩
    with_reducible rfl
  simp only [Act.put, List.setIfInBounds_toArray, List.set_cons_zero, List.set_cons_succ]
  refine wpAnyS_go (i := 5) (some 37) (v := ?_) rfl rfl (by kernel_rfl) (by kernel_rfl) (by kernel_rfl) (fun _ _ _ h => h) (.inl ⟨by rfl, fun w hS => ?_⟩) ?_
  rotate_left
  · (try go_simp)
    refine ⟨?_, hS⟩
    with_reducible rfl
  simp only [Act.put, List.setIfInBounds_toArray, List.set_cons_zero, List.set_cons_succ]
  refine wpAnyS_go (i := 6) (some 38) (v := ?_) rfl rfl (by kernel_rfl) (by kernel_rfl) (by kernel_rfl) (fun _ _ _ h => h) (.inl ⟨by rfl, fun w hS => ?_⟩) ?_
  rotate_left
  · (try go_simp)
    refine ⟨?_, hS⟩
    with_reducible rfl
  simp only [Act.put, List.setIfInBounds_toArray, List.set_cons_zero, List.set_cons_succ]
  refine wpAnyS_go (i := 7) (some 39) (v := ?_) rfl rfl (by kernel_rfl) (by kernel_rfl) (by kernel_rfl) (fun _ _ _ h => h) (.inl ⟨by rfl, fun w hS => ?_⟩) ?_
  rotate_left
  · (try go_simp)
    refine ⟨?_, hS⟩
    with_reducible rfl
  simp only [Act.put, List.setIfInBounds_toArray, List.set_cons_zero, List.set_cons_succ]
  refine wpAnyS_go (i := 8) (some 40) (v := ?_) rfl rfl (by kernel_rfl) (by kernel_rfl) (by kernel_rfl) (fun _ _ _ h => h) (.inl ⟨by rfl, fun w hS => ?_⟩) ?_
  rotate_left
  · (try go_simp)
    refine ⟨?_, hS⟩
    with_reducible rfl
  simp only [Act.put, List.setIfInBounds_toArray, List.set_cons_zero, List.set_cons_succ]
  refine wpAnyS_go (i := 9) (some 41) (v := ?_) rfl rfl (by kernel_rfl) (by kernel_rfl) (by kernel_rfl) (fun _ _ _ h => h) (.inl ⟨by rfl, fun w hS => ?_⟩) ?_
  rotate_left
  · go_simp
    change Calls _ _ _ _ _
    refine Calls.mono (small_2 _) ?_
    rintro e w' ⟨rfl, hx⟩
    refine ⟨?_, hS.trans hx⟩
    with_reducible rfl
  simp only [Act.put, List.setIfInBounds_toArray, List.set_cons_zero, List.set_cons_succ]
  refine wpAnyS_go (i := 10) (some 42) (v := ?_) rfl rfl (by kernel_rfl) (by kernel_rfl) (by kernel_rfl) (fun _ _ _ h => h) (.inl ⟨by rfl, fun w hS => ?_⟩) ?_
  rotate_left
  · have e1 := rdB_opt (rdB.ext hS h2)
    go_simp
    refine ⟨?_, hS⟩
    with_reducible rfl
  simp only [Act.put, List.setIfInBounds_toArray, List.set_cons_zero, List.set_cons_succ]
  refine wpAnyS_go (i := 11) (some 43) (v := ?_) rfl rfl (by kernel_rfl) (by kernel_rfl) (by kernel_rfl) (fun _ _ _ h => h) (.inl ⟨by rfl, fun w hS => ?_⟩) ?_
  rotate_left
  · go_simp
    change Calls _ _ _ _ _
    refine Calls.mono (mul_22 _) ?_
    rintro e w' ⟨rfl, hx⟩
    refine ⟨?_, hS.trans hx⟩
    with_reducible rfl
  simp only [Act.put, List.setIfInBounds_toArray, List.set_cons_zero, List.set_cons_succ]
  refine wpAnyS_go (i := 12) (some 44) (v := ?_) rfl rfl (by kernel_rfl) (by kernel_rfl) (by kernel_rfl) (fun _ _ _ h => h) (.inl ⟨by rfl, fun w hS => ?_⟩) ?_
  rotate_left
  · go_simp
    change Calls _ _ _ _ _
    refine Calls.mono (small_1 _) ?_
    rintro e w' ⟨rfl, hx⟩
    refine ⟨?_, hS.trans hx⟩
    with_reducible rfl
  simp only [Act.put, List.setIfInBounds_toArray, List.set_cons_zero, List.set_cons_succ]
  refine wpAnyS_go (i := 13) (some 45) (v := ?_) rfl rfl (by kernel_rfl) (by kernel_rfl) (by kernel_rfl) (fun _ _ _ h => h) (.inl ⟨by rfl, fun w hS => ?_⟩) ?_
  rotate_left
  · (try go_simp)
    refine ⟨?_, hS⟩
    with_reducible rfl
  simp only [Act.put, List.setIfInBounds_toArray, List.set_cons_zero, List.set_cons_succ]
  refine wpAnyS_go (i := 14) (some 46) (v := ?_) rfl rfl (by kernel_rfl) (by kernel_rfl) (by kernel_rfl) (fun _ _ _ h => h) (.inl ⟨by rfl, fun w hS => ?_⟩) ?_
  rotate_left
  · (try go_simp)
    refine ⟨?_, hS⟩
    with_reducible rfl
  simp only [Act.put, List.setIfInBounds_toArray, List.set_cons_zero, List.set_cons_succ]
  refine wpAnyS_go (i := 15) (some 47) (v := ?_) rfl rfl (by kernel_rfl) (by kernel_rfl) (by kernel_rfl) (fun _ _ _ h => h) (.inl ⟨by rfl, fun w hS => ?_⟩) ?_
  rotate_left
  · (try go_simp)
    refine ⟨?_, hS⟩
    with_reducible rfl
  simp only [Act.put, List.setIfInBounds_toArray, List.set_cons_zero, List.set_cons_succ]
  refine wpAnyS_go (i := 16) (some 48) (v := ?_) rfl rfl (by kernel_rfl) (by kernel_rfl) (by kernel_rfl) (fun _ _ _ h => h) (.inl ⟨by rfl, fun w hS => ?_⟩) ?_
  rotate_left
  · (try go_simp)
    refine ⟨?_, hS⟩
    with_reducible rfl
  simp only [Act.put, List.setIfInBounds_toArray, List.set_cons_zero, List.set_cons_succ]
  refine wpAnyS_go (i := 17) (some 49) (v := ?_) rfl rfl (by kernel_rfl) (by kernel_rfl) (by kernel_rfl) (fun _ _ _ h => h) (.inl ⟨by rfl, fun w hS => ?_⟩) ?_
  rotate_left
  · (try go_simp)
    refine ⟨?_, hS⟩
    with_reducible rfl
  simp only [Act.put, List.setIfInBounds_toArray, List.set_cons_zero, List.set_cons_succ]
  refine wpAnyS_go (i := 18) (some 50) (v := ?_) rfl rfl (by kernel_rfl) (by kernel_rfl) (by kernel_rfl) (fun _ _ _ h => h) (.inl ⟨by rfl, fun w hS => ?_⟩) ?_
  rotate_left
  · (try go_simp)
    refine ⟨?_, hS⟩
    with_reducible rfl
  simp only [Act.put, List.setIfInBounds_toArray, List.set_cons_zero, List.set_cons_succ]
  refine wpAnyS_go (i := 19) (some 51) (v := ?_) rfl rfl (by kernel_rfl) (by kernel_rfl) (by kernel_rfl) (fun _ _ _ h => h) (.inl ⟨by rfl, fun w hS => ?_⟩) ?_
  rotate_left
  · (try go_simp)
    refine ⟨?_, hS⟩
    with_reducible rfl
  simp only [Act.put, List.setIfInBounds_toArray, List.set_cons_zero, List.set_cons_succ]
  refine wpAnyS_go (i := 20) (some 52) (v := ?_) rfl rfl (by kernel_rfl) (by kernel_rfl) (by kernel_rfl) (fun _ _ _ h => h) (.inl ⟨by rfl, fun w hS => ?_⟩) ?_
  rotate_left
  · (try go_simp)
    refine ⟨?_, hS⟩
    with_reducible rfl
  simp only [Act.put, List.setIfInBounds_toArray, List.set_cons_zero, List.set_cons_succ]
  refine wpAnyS_go (i := 21) (some 53) (v := ?_) rfl rfl (by kernel_rfl) (by kernel_rfl) (by kernel_rfl) (fun _ _ _ h => h) (.inl ⟨by rfl, fun w hS => ?_⟩) ?_
  rotate_left
  · have e1 := rdB_opt (rdB.ext hS h6)
    go_simp
    refine ⟨?_, hS⟩
    with_reducible rfl
  simp only [Act.put, List.setIfInBounds_toArray, List.set_cons_zero, List.set_cons_succ]
  refine wpAnyS_go (i := 22) (some 54) (v := ?_) rfl rfl (by kernel_rfl) (by kernel_rfl) (by kernel_rfl) (fun _ _ _ h => h) (.inl ⟨by rfl, fun w hS => ?_⟩) ?_
  rotate_left
  · go_simp
    change Calls _ _ _ _ _
    refine Calls.mono (small_2 _) ?_
    rintro e w' ⟨rfl, hx⟩
    refine ⟨?_, hS.trans hx⟩
    with_reducible rfl
  simp only [Act.put, List.setIfInBounds_toArray, List.set_cons_zero, List.set_cons_succ]
  refine wpAnyS_go (i := 23) (some 55) (v := ?_) rfl rfl (by kernel_rfl) (by kernel_rfl) (by kernel_rfl) (fun _ _ _ h => h) (.inl ⟨by rfl, fun w hS => ?_⟩) ?_
  rotate_left
  · (try go_simp)
    refine ⟨?_, hS⟩
    with_reducible rfl
  simp only [Act.put, List.setIfInBounds_toArray, List.set_cons_zero, List.set_cons_succ]
  refine wpAnyS_go (i := 24) (some 56) (v := ?_) rfl rfl (by kernel_rfl) (by kernel_rfl) (by kernel_rfl) (fun _ _ _ h => h) (.inl ⟨by rfl, fun w hS => ?_⟩) ?_
  rotate_left
  · (try go_simp)
    refine ⟨?_, hS⟩
    with_reducible rfl
  simp only [Act.put, List.setIfInBounds_toArray, List.set_cons_zero, List.set_cons_succ]
  refine wpAnyS_go (i := 25) (some 57) (v := ?_) rfl rfl (by kernel_rfl) (by kernel_rfl) (by kernel_rfl) (fun _ _ _ h => h) (.inl ⟨by rfl, fun w hS => ?_⟩) ?_
  rotate_left
  · (try go_simp)
    refine ⟨?_, hS⟩
    with_reducible rfl
  simp only [Act.put, List.setIfInBounds_toArray, List.set_cons_zero, List.set_cons_succ]
  refine wpAnyS_go (i := 26) (some 58) (v := ?_) rfl rfl (by kernel_rfl) (by kernel_rfl) (by kernel_rfl) (fun _ _ _ h => h) (.inl ⟨by rfl, fun w hS => ?_⟩) ?_
  rotate_left
  · (try go_simp)
    refine ⟨?_, hS⟩
    with_reducible rfl
  simp only [Act.put, List.setIfInBounds_toArray, List.set_cons_zero, List.set_cons_succ]
  refine wpAnyS_go (i := 27) (some 59) (v := ?_) rfl rfl (by kernel_rfl) (by kernel_rfl) (by kernel_rfl) (fun _ _ _ h => h) (.inl ⟨by rfl, fun w hS => ?_⟩) ?_
  rotate_left
  · (try go_simp)
    refine ⟨?_, hS⟩
    with_reducible rfl
  simp only [Act.put, List.setIfInBounds_toArray, List.set_cons_zero, List.set_cons_succ]
  refine wpAnyS_go (i := 28) (some 60) (v := ?_) rfl rfl (by kernel_rfl) (by kernel_rfl) (by kernel_rfl) (fun _ _ _ h => h) (.inl ⟨by rfl, fun w hS => ?_⟩) ?_
  rotate_left
  · (try go_simp)
    refine ⟨?_, hS⟩
    with_reducible rfl
  simp only [Act.put, List.setIfInBounds_toArray, List.set_cons_zero, List.set_cons_succ]
  refine wpAnyS_go (i := 29) (some 61) (v := ?_) rfl rfl (by kernel_rfl) (by kernel_rfl) (by kernel_rfl) (fun _ _ _ h => h) (.inl ⟨by rfl, fun w hS => ?_⟩) ?_
  rotate_left
  · (try go_simp)
    refine ⟨?_, hS⟩
    with_reducible rfl
  simp only [Act.put, List.setIfInBounds_toArray, List.set_cons_zero, List.set_cons_succ]
  refine wpAnyS_go (i := 30) (some 62) (v := ?_) rfl rfl (by kernel_rfl) (by kernel_rfl) (by kernel_rfl) (fun _ _ _ h => h) (.inl ⟨by rfl, fun w hS => ?_⟩) ?_
  rotate_left
  · (try go_simp)
    refine ⟨?_, hS⟩
    with_reducible rfl
  simp only [Act.put, List.setIfInBounds_toArray, List.set_cons_zero, List.set_cons_succ]
  refine wpAnyS_go (i := 31) (some 63) (v := ?_) rfl rfl (by kernel_rfl) (by kernel_rfl) (by kernel_rfl) (fun _ _ _ h => h) (.inl ⟨by rfl, fun w hS => ?_⟩) ?_
  rotate_left
  · (try go_simp)
    refine ⟨?_, hS⟩
    with_reducible rfl
  simp only [Act.put, List.setIfInBounds_toArray, List.set_cons_zero, List.set_cons_succ]
  refine wpAnyS_go (i := 32) (some 64) (v := ?_) rfl rfl (by kernel_rfl) (by kernel_rfl) (by kernel_rfl) (fun _ _ _ h => h) (.inl ⟨by rfl, fun w hS => ?_⟩) ?_
  rotate_left
  · (try go_simp)
    refine ⟨?_, hS⟩
    with_reducible rfl
  simp only [Act.put, List.setIfInBounds_toArray, List.set_cons_zero, List.set_cons_succ]
  refine wpAnyS_go (i := 33) (some 65) (v := ?_) rfl rfl (by kernel_rfl) (by kernel_rfl) (by kernel_rfl) (fun _ _ _ h => h) (.inl ⟨by rfl, fun w hS => ?_⟩) ?_
  rotate_left
  · (try go_simp)
    refine ⟨?_, hS⟩
    with_reducible rfl
  simp only [Act.put, List.setIfInBounds_toArray, List.set_cons_zero, List.set_cons_succ]
  refine wpAnyS_go (i := 34) (some 0) (v := ?_) rfl rfl (by kernel_rfl) (by kernel_rfl) (by kernel_rfl) (fun _ _ _ h => h) (.inl ⟨by rfl, fun w hS => ?_⟩) ?_
  rotate_left
  · (try go_simp)
    refine ⟨?_, hS⟩
    with_reducible rfl
  simp only [Act.put, List.setIfInBounds_toArray, List.set_cons_zero, List.set_cons_succ]
  refine wpAnyS_done (by kernel_rfl) fun w hS => ?_
  go_wp2
  go_ret
  exact ⟨rfl, HE.trans hS⟩
end Go.Proofs.Ytndohjgfjbopnaa
