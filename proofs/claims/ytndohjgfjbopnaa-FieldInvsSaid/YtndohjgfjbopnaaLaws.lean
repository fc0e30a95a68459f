/-
  The walk of the statement FieldLaws.
-/
import Derived.Test.YtndohjgfjbopnaaShown
import Derived.Test.YtndohjgfjbopnaaEuler
set_option linter.unusedSimpArgs false
set_option linter.unusedVariables false
namespace Go.Cv
open Go.RowKit
theorem rdB_cell {W : World} {n : Nat} {f : Nat → UInt8} (h : rdB W n f) {i : Nat} (hi : i < 32) : W.cell? ⟨n, i, none⟩ = some (.int .u8 (n8 (f i))) := by
  obtain ⟨⟨c, t, hc, h32⟩, hr⟩ := h
  have hr2 : rowOf W n = c := by unfold rowOf; rw [hc]
  rw [hr2] at hr
  subst hr
  rw [cell_of_row _ _ i _ t (0, 0) hc]
  exact bcells_get f hi
/-- The error of a root. -/
def er : Bool → Value
  | true => .nilIface
  | false => errNone
end Go.Cv
namespace Go.Proofs.Ytndohjgfjbopnaa
open Go.RowKit Go.Cv Go.Cv.Dig
theorem codeinfo : (Try.prog.info? 30).map (·.comparable) = some true := by kernel_rfl
@[go_sem] theorem eql_err (a b : Int) (w : World) : (binOp .eql 25 (.iface 30 (.int .i64 a)) (.iface 30 (.int .i64 b))).run Try.prog w = .ok (.bool (a == b)) w :=
  run_eql_iface_int' w a b Try.underlying25 Try.underlying30 codeinfo
theorem froot_e (f : Nat → UInt8) (w : World) :
    Calls Try.prog 19 #[.agg (bcells f)] w fun e w' => ∃ r : Nat → UInt8, e = .returned (.tuple #[.agg (bcells r), er (rtOk (V f))]) ∧ Ext w w' := by
  cases hk : rtOk (V f) with
  | true => exact (froot_ok f hk w).mono fun e w' h => ⟨_, h⟩
  | false => exact (froot_no f hk w).mono fun e w' h => ⟨_, h⟩

set_option maxRecDepth 8000 in
set_option maxHeartbeats 40000000 in
theorem laws_walk (f g h : Nat → UInt8) (w0 : World)
    (e1 : beqb (ob (V f + V g)) (ob (V g + V f)) = true)
    (e2 : beqb (ob (V f * V g)) (ob (V g * V f)) = true)
    (e3 : beqb (ob (V (ob (V f * V g)) * V h)) (ob (V f * V (ob (V g * V h)))) = true)
    (e4 : beqb (ob (V f * V (ob (V g + V h)))) (ob (V (ob (V f * V g)) + V (ob (V f * V h)))) = true)
    (e5 : beqb (ob (V (ob (V f + negp (V g))) + V g)) (ob (V f)) = true)
    (e6 : beqb (ob (V (ob (V f + V g)) + V h)) (ob (V f + V (ob (V g + V h)))) = true)
    (e7 : beqb (ob (V f * V (nb 1))) (ob (V f)) = true)
    (e8 : beqb (ob (V f + negp (V f))) (nb 0) = true)
    (z k : Bool) (i s : Nat → UInt8) (hb : beqb (ob (V f)) (nb 0) = z)
    (HZ : Hid (z = true → ∀ w, Calls Try.prog 14 #[.agg (bcells f)] w fun e w' => e = .returned (.tuple #[.agg (bcells fun _ => 0), (.iface 30 (.int .i64 28))]) ∧ Ext w w'))
    (HI : Hid (z = false → ∀ w, Calls Try.prog 14 #[.agg (bcells f)] w fun e w' => e = .returned (.tuple #[.agg (bcells i), .nilIface]) ∧ Ext w w'))
    (HR1 : Hid (∀ w, Calls Try.prog 19 #[.agg (bcells f)] w fun e w' => ∃ r : Nat → UInt8, e = .returned (.tuple #[.agg (bcells r), er k]) ∧ Ext w w'))
    (HR2 : Hid (z = false → ∀ w, Calls Try.prog 19 #[.agg (bcells (ob (V f + V f)))] w fun e w' => ∃ r : Nat → UInt8, e = .returned (.tuple #[.agg (bcells r), er (!k)]) ∧ Ext w w'))
    (HR3 : Hid (∀ w, Calls Try.prog 19 #[.agg (bcells (ob (V g * V g)))] w fun e w' => e = .returned (.tuple #[.agg (bcells s), .nilIface]) ∧ Ext w w'))
    (em : Hid (z = false → beqb (ob (V f * V i)) (nb 1) = true))
    (eb : Hid (beqb s (ob (V g)) = true ∨ (beqb s (ob (V g)) = false ∧ beqb (ob (V s + V g)) (nb 0) = true)))
    (ev : Hid (s 0 % 2 = 0)) :
    Calls Try.prog 6 #[.agg (bcells f), .agg (bcells g), .agg (bcells h)] w0 fun e w' => e = .returned (.bool true) ∧ Ext w0 w' := by
  go_enter Try.func6, Try.ntmps6
  go_upto_region 1 with fail
  obtain ⟨wc, hW⟩ : ∃ W, W = (((w0.alloc (.cells (bcells f) 22)).alloc (.cells (bcells g) 22)).alloc (.cells (bcells h) 22)) := ⟨_, rfl⟩
  rw [← hW]
  have h3 : rdB wc w0.heap.size f := by rw [hW]; exact ((rdB.new _ _ _).ext (ext_alloc _ _)).ext (ext_alloc _ _)
  have h4 : rdB wc (w0.heap.size + 1) g := by rw [hW]; exact (rdB.new_ _ _ _ (by simp)).ext (ext_alloc _ _)
  have h5 : rdB wc (w0.heap.size + 1 + 1) h := by rw [hW]; exact rdB.new_ _ _ _ (by simp)
  have HE : Ext w0 wc := by rw [hW]; exact ((ext_alloc _ _).trans (ext_alloc _ _)).trans (ext_alloc _ _)
  clear hW
  go_cut [7] from 20 to 20 (fun p wx => p = .bool true ∧ Ext wc wx)
  case first =>
    go_wp2_with (go_at_call 13; with_reducible refine (shown_any _).mono ?_; rintro e w' ⟨rfl, hx⟩; obtain ⟨l', rfl⟩ := grw_of_ext hx; clear hx)
    go_meet
    case rel => exact ⟨rfl, grw_ext _ _⟩
  case rest =>
  obtain ⟨rfl, hx⟩ := hcut
  replace h3 := rdB.ext hx h3
  replace h4 := rdB.ext hx h4
  replace h5 := rdB.ext hx h5
  replace HE := HE.trans hx
  clear hx
  go_upto_region 2 with fail
  go_cut [8] from 21 to 49 (fun p wx => p = .bool true ∧ Ext wc wx)
  case first =>
    refine wp_region_sure (fun w' => Ext wc w') (by kernel_rfl) (ext_drew _) ?_
    refine wpAnyS_go (i := 0) (some 21) (v := ?_) rfl rfl (by kernel_rfl) (by kernel_rfl) (by kernel_rfl) (fun _ _ _ h => h) (.inl ⟨by rfl, fun w hS => ?_⟩) ?_
    rotate_left
    · have e1 := rdB_opt (rdB.ext hS h3)
      go_simp
      refine ⟨?_, hS⟩
      with_reducible rfl
    simp only [Act.put, List.setIfInBounds_toArray, List.set_cons_zero, List.set_cons_succ]
    refine wpAnyS_go (i := 1) (some 22) (v := ?_) rfl rfl (by kernel_rfl) (by kernel_rfl) (by kernel_rfl) (fun _ _ _ h => h) (.inl ⟨by rfl, fun w hS => ?_⟩) ?_
    rotate_left
    · have e1 := rdB_opt (rdB.ext hS h4)
      go_simp
      refine ⟨?_, hS⟩
      with_reducible rfl
    simp only [Act.put, List.setIfInBounds_toArray, List.set_cons_zero, List.set_cons_succ]
    refine wpAnyS_go (i := 2) (some 23) (v := ?_) rfl rfl (by kernel_rfl) (by kernel_rfl) (by kernel_rfl) (fun _ _ _ h => h) (.inl ⟨by rfl, fun w hS => ?_⟩) ?_
    rotate_left
    · go_simp
      change Calls _ _ _ _ _
      refine Calls.mono (fadd_any _ _ _) ?_
      rintro e w' ⟨rfl, hx⟩
      refine ⟨?_, hS.trans hx⟩
      with_reducible rfl
    simp only [Act.put, List.setIfInBounds_toArray, List.set_cons_zero, List.set_cons_succ]
    refine wpAnyS_go (i := 3) (some 24) (v := ?_) rfl rfl (by kernel_rfl) (by kernel_rfl) (by kernel_rfl) (fun _ _ _ h => h) (.inl ⟨by rfl, fun w hS => ?_⟩) ?_
    rotate_left
    · have e1 := rdB_opt (rdB.ext hS h4)
      go_simp
      refine ⟨?_, hS⟩
      with_reducible rfl
    simp only [Act.put, List.setIfInBounds_toArray, List.set_cons_zero, List.set_cons_succ]
    refine wpAnyS_go (i := 4) (some 25) (v := ?_) rfl rfl (by kernel_rfl) (by kernel_rfl) (by kernel_rfl) (fun _ _ _ h => h) (.inl ⟨by rfl, fun w hS => ?_⟩) ?_
    rotate_left
    · have e1 := rdB_opt (rdB.ext hS h3)
      go_simp
      refine ⟨?_, hS⟩
      with_reducible rfl
    simp only [Act.put, List.setIfInBounds_toArray, List.set_cons_zero, List.set_cons_succ]
    refine wpAnyS_go (i := 5) (some 26) (v := ?_) rfl rfl (by kernel_rfl) (by kernel_rfl) (by kernel_rfl) (fun _ _ _ h => h) (.inl ⟨by rfl, fun w hS => ?_⟩) ?_
    rotate_left
    · go_simp
      change Calls _ _ _ _ _
      refine Calls.mono (fadd_any _ _ _) ?_
      rintro e w' ⟨rfl, hx⟩
      refine ⟨?_, hS.trans hx⟩
      with_reducible rfl
    simp only [Act.put, List.setIfInBounds_toArray, List.set_cons_zero, List.set_cons_succ]
    refine wpAnyS_go (i := 6) (some 27) (v := ?_) rfl rfl (by kernel_rfl) (by kernel_rfl) (by kernel_rfl) (fun _ _ _ h => h) (.inl ⟨by rfl, fun w hS => ?_⟩) ?_
    rotate_left
    · (try go_simp)
      refine ⟨?_, hS⟩
      with_reducible rfl
    simp only [Act.put, List.setIfInBounds_toArray, List.set_cons_zero, List.set_cons_succ]
    refine wpAnyS_go (i := 7) (some 28) (v := ?_) rfl rfl (by kernel_rfl) (by kernel_rfl) (by kernel_rfl) (fun _ _ _ h => h) (.inl ⟨by rfl, fun w hS => ?_⟩) ?_
    rotate_left
    · (try go_simp)
      refine ⟨?_, hS⟩
      with_reducible rfl
    simp only [Act.put, List.setIfInBounds_toArray, List.set_cons_zero, List.set_cons_succ]
    refine wpAnyS_go (i := 8) (some 29) (v := ?_) rfl rfl (by kernel_rfl) (by kernel_rfl) (by kernel_rfl) (fun _ _ _ h => h) (.inl ⟨by rfl, fun w hS => ?_⟩) ?_
    rotate_left
    · have e1 := rdB_opt (rdB.ext hS h3)
      go_simp
      refine ⟨?_, hS⟩
      with_reducible rfl
    simp only [Act.put, List.setIfInBounds_toArray, List.set_cons_zero, List.set_cons_succ]
    refine wpAnyS_go (i := 9) (some 30) (v := ?_) rfl rfl (by kernel_rfl) (by kernel_rfl) (by kernel_rfl) (fun _ _ _ h => h) (.inl ⟨by rfl, fun w hS => ?_⟩) ?_
    rotate_left
    · have e1 := rdB_opt (rdB.ext hS h4)
      go_simp
      refine ⟨?_, hS⟩
      with_reducible rfl
    simp only [Act.put, List.setIfInBounds_toArray, List.set_cons_zero, List.set_cons_succ]
    refine wpAnyS_go (i := 10) (some 31) (v := ?_) rfl rfl (by kernel_rfl) (by kernel_rfl) (by kernel_rfl) (fun _ _ _ h => h) (.inl ⟨by rfl, fun w hS => ?_⟩) ?_
    rotate_left
    · go_simp
      change Calls _ _ _ _ _
      refine Calls.mono (fmul_any _ _ _) ?_
      rintro e w' ⟨rfl, hx⟩
      refine ⟨?_, hS.trans hx⟩
      with_reducible rfl
    simp only [Act.put, List.setIfInBounds_toArray, List.set_cons_zero, List.set_cons_succ]
    refine wpAnyS_go (i := 11) (some 32) (v := ?_) rfl rfl (by kernel_rfl) (by kernel_rfl) (by kernel_rfl) (fun _ _ _ h => h) (.inl ⟨by rfl, fun w hS => ?_⟩) ?_
    rotate_left
    · have e1 := rdB_opt (rdB.ext hS h4)
      go_simp
      refine ⟨?_, hS⟩
      with_reducible rfl
    simp only [Act.put, List.setIfInBounds_toArray, List.set_cons_zero, List.set_cons_succ]
    refine wpAnyS_go (i := 12) (some 33) (v := ?_) rfl rfl (by kernel_rfl) (by kernel_rfl) (by kernel_rfl) (fun _ _ _ h => h) (.inl ⟨by rfl, fun w hS => ?_⟩) ?_
    rotate_left
    · have e1 := rdB_opt (rdB.ext hS h3)
      go_simp
      refine ⟨?_, hS⟩
      with_reducible rfl
    simp only [Act.put, List.setIfInBounds_toArray, List.set_cons_zero, List.set_cons_succ]
    refine wpAnyS_go (i := 13) (some 34) (v := ?_) rfl rfl (by kernel_rfl) (by kernel_rfl) (by kernel_rfl) (fun _ _ _ h => h) (.inl ⟨by rfl, fun w hS => ?_⟩) ?_
    rotate_left
    · go_simp
      change Calls _ _ _ _ _
      refine Calls.mono (fmul_any _ _ _) ?_
      rintro e w' ⟨rfl, hx⟩
      refine ⟨?_, hS.trans hx⟩
      with_reducible rfl
    simp only [Act.put, List.setIfInBounds_toArray, List.set_cons_zero, List.set_cons_succ]
    refine wpAnyS_go (i := 14) (some 35) (v := ?_) rfl rfl (by kernel_rfl) (by kernel_rfl) (by kernel_rfl) (fun _ _ _ h => h) (.inl ⟨by rfl, fun w hS => ?_⟩) ?_
    rotate_left
    · (try go_simp)
      refine ⟨?_, hS⟩
      with_reducible rfl
    simp only [Act.put, List.setIfInBounds_toArray, List.set_cons_zero, List.set_cons_succ]
    refine wpAnyS_go (i := 15) (some 36) (v := ?_) rfl rfl (by kernel_rfl) (by kernel_rfl) (by kernel_rfl) (fun _ _ _ h => h) (.inl ⟨by rfl, fun w hS => ?_⟩) ?_
    rotate_left
    · (try go_simp)
      refine ⟨?_, hS⟩
      with_reducible rfl
    simp only [Act.put, List.setIfInBounds_toArray, List.set_cons_zero, List.set_cons_succ]
    refine wpAnyS_go (i := 16) (some 37) (v := ?_) rfl rfl (by kernel_rfl) (by kernel_rfl) (by kernel_rfl) (fun _ _ _ h => h) (.inl ⟨by rfl, fun w hS => ?_⟩) ?_
    rotate_left
    · (try go_simp)
      refine ⟨?_, hS⟩
      with_reducible rfl
    simp only [Act.put, List.setIfInBounds_toArray, List.set_cons_zero, List.set_cons_succ]
    refine wpAnyS_go (i := 17) (some 38) (v := ?_) rfl rfl (by kernel_rfl) (by kernel_rfl) (by kernel_rfl) (fun _ _ _ h => h) (.inl ⟨by rfl, fun w hS => ?_⟩) ?_
    rotate_left
    · have e1 := rdB_opt (rdB.ext hS h3)
      go_simp
      refine ⟨?_, hS⟩
      with_reducible rfl
    simp only [Act.put, List.setIfInBounds_toArray, List.set_cons_zero, List.set_cons_succ]
    refine wpAnyS_go (i := 18) (some 39) (v := ?_) rfl rfl (by kernel_rfl) (by kernel_rfl) (by kernel_rfl) (fun _ _ _ h => h) (.inl ⟨by rfl, fun w hS => ?_⟩) ?_
    rotate_left
    · have e1 := rdB_opt (rdB.ext hS h4)
      go_simp
      refine ⟨?_, hS⟩
      with_reducible rfl
    simp only [Act.put, List.setIfInBounds_toArray, List.set_cons_zero, List.set_cons_succ]
    refine wpAnyS_go (i := 19) (some 40) (v := ?_) rfl rfl (by kernel_rfl) (by kernel_rfl) (by kernel_rfl) (fun _ _ _ h => h) (.inl ⟨by rfl, fun w hS => ?_⟩) ?_
    rotate_left
    · go_simp
      change Calls _ _ _ _ _
      refine Calls.mono (fmul_any _ _ _) ?_
      rintro e w' ⟨rfl, hx⟩
      refine ⟨?_, hS.trans hx⟩
      with_reducible rfl
    simp only [Act.put, List.setIfInBounds_toArray, List.set_cons_zero, List.set_cons_succ]
    refine wpAnyS_go (i := 20) (some 41) (v := ?_) rfl rfl (by kernel_rfl) (by kernel_rfl) (by kernel_rfl) (fun _ _ _ h => h) (.inl ⟨by rfl, fun w hS => ?_⟩) ?_
    rotate_left
    · have e1 := rdB_opt (rdB.ext hS h5)
      go_simp
      refine ⟨?_, hS⟩
      with_reducible rfl
    simp only [Act.put, List.setIfInBounds_toArray, List.set_cons_zero, List.set_cons_succ]
    refine wpAnyS_go (i := 21) (some 42) (v := ?_) rfl rfl (by kernel_rfl) (by kernel_rfl) (by kernel_rfl) (fun _ _ _ h => h) (.inl ⟨by rfl, fun w hS => ?_⟩) ?_
    rotate_left
    · go_simp
      change Calls _ _ _ _ _
      refine Calls.mono (fmul_any _ _ _) ?_
      rintro e w' ⟨rfl, hx⟩
      refine ⟨?_, hS.trans hx⟩
      with_reducible rfl
    simp only [Act.put, List.setIfInBounds_toArray, List.set_cons_zero, List.set_cons_succ]
    refine wpAnyS_go (i := 22) (some 43) (v := ?_) rfl rfl (by kernel_rfl) (by kernel_rfl) (by kernel_rfl) (fun _ _ _ h => h) (.inl ⟨by rfl, fun w hS => ?_⟩) ?_
    rotate_left
    · have e1 := rdB_opt (rdB.ext hS h3)
      go_simp
      refine ⟨?_, hS⟩
      with_reducible rfl
    simp only [Act.put, List.setIfInBounds_toArray, List.set_cons_zero, List.set_cons_succ]
    refine wpAnyS_go (i := 23) (some 44) (v := ?_) rfl rfl (by kernel_rfl) (by kernel_rfl) (by kernel_rfl) (fun _ _ _ h => h) (.inl ⟨by rfl, fun w hS => ?_⟩) ?_
    rotate_left
    · have e1 := rdB_opt (rdB.ext hS h4)
      go_simp
      refine ⟨?_, hS⟩
      with_reducible rfl
    simp only [Act.put, List.setIfInBounds_toArray, List.set_cons_zero, List.set_cons_succ]
    refine wpAnyS_go (i := 24) (some 45) (v := ?_) rfl rfl (by kernel_rfl) (by kernel_rfl) (by kernel_rfl) (fun _ _ _ h => h) (.inl ⟨by rfl, fun w hS => ?_⟩) ?_
    rotate_left
    · have e1 := rdB_opt (rdB.ext hS h5)
      go_simp
      refine ⟨?_, hS⟩
      with_reducible rfl
    simp only [Act.put, List.setIfInBounds_toArray, List.set_cons_zero, List.set_cons_succ]
    refine wpAnyS_go (i := 25) (some 46) (v := ?_) rfl rfl (by kernel_rfl) (by kernel_rfl) (by kernel_rfl) (fun _ _ _ h => h) (.inl ⟨by rfl, fun w hS => ?_⟩) ?_
    rotate_left
    · go_simp
      change Calls _ _ _ _ _
      refine Calls.mono (fmul_any _ _ _) ?_
      rintro e w' ⟨rfl, hx⟩
      refine ⟨?_, hS.trans hx⟩
      with_reducible rfl
    simp only [Act.put, List.setIfInBounds_toArray, List.set_cons_zero, List.set_cons_succ]
    refine wpAnyS_go (i := 26) (some 47) (v := ?_) rfl rfl (by kernel_rfl) (by kernel_rfl) (by kernel_rfl) (fun _ _ _ h => h) (.inl ⟨by rfl, fun w hS => ?_⟩) ?_
    rotate_left
    · go_simp
      change Calls _ _ _ _ _
      refine Calls.mono (fmul_any _ _ _) ?_
      rintro e w' ⟨rfl, hx⟩
      refine ⟨?_, hS.trans hx⟩
      with_reducible rfl
    simp only [Act.put, List.setIfInBounds_toArray, List.set_cons_zero, List.set_cons_succ]
    refine wpAnyS_go (i := 27) (some 48) (v := ?_) rfl rfl (by kernel_rfl) (by kernel_rfl) (by kernel_rfl) (fun _ _ _ h => h) (.inl ⟨by rfl, fun w hS => ?_⟩) ?_
    rotate_left
    · (try go_simp)
      refine ⟨?_, hS⟩
      with_reducible rfl
    simp only [Act.put, List.setIfInBounds_toArray, List.set_cons_zero, List.set_cons_succ]
    refine wpAnyS_go (i := 28) (some 49) (v := ?_) rfl rfl (by kernel_rfl) (by kernel_rfl) (by kernel_rfl) (fun _ _ _ h => h) (.inl ⟨by rfl, fun w hS => ?_⟩) ?_
    rotate_left
    · (try go_simp)
      refine ⟨?_, hS⟩
      with_reducible rfl
    simp only [Act.put, List.setIfInBounds_toArray, List.set_cons_zero, List.set_cons_succ]
    refine wpAnyS_go (i := 29) (some 8) (v := ?_) rfl rfl (by kernel_rfl) (by kernel_rfl) (by kernel_rfl) (fun _ _ _ h => h) (.inl ⟨by rfl, fun w hS => ?_⟩) ?_
    rotate_left
    · (try go_simp)
      refine ⟨?_, hS⟩
      with_reducible rfl
    simp only [Act.put, List.setIfInBounds_toArray, List.set_cons_zero, List.set_cons_succ]
    refine wpAnyS_done (by kernel_rfl) fun w hS => ?_
    go_wp2
    go_meet
    case rel => exact ⟨rfl, hS⟩
  case rest =>
  obtain ⟨rfl, hx⟩ := hcut
  replace h3 := rdB.ext hx h3
  replace h4 := rdB.ext hx h4
  replace h5 := rdB.ext hx h5
  replace HE := HE.trans hx
  clear hx
  go_upto_region 3 with fail
  go_cut [9] from 50 to 72 (fun p wx => p = .bool true ∧ Ext wc wx)
  case first =>
    refine wp_region_sure (fun w' => Ext wc w') (by kernel_rfl) (ext_drew _) ?_
    refine wpAnyS_go (i := 0) (some 50) (v := ?_) rfl rfl (by kernel_rfl) (by kernel_rfl) (by kernel_rfl) (fun _ _ _ h => h) (.inl ⟨by rfl, fun w hS => ?_⟩) ?_
    rotate_left
    · have e1 := rdB_opt (rdB.ext hS h3)
      go_simp
      refine ⟨?_, hS⟩
      with_reducible rfl
    simp only [Act.put, List.setIfInBounds_toArray, List.set_cons_zero, List.set_cons_succ]
    refine wpAnyS_go (i := 1) (some 51) (v := ?_) rfl rfl (by kernel_rfl) (by kernel_rfl) (by kernel_rfl) (fun _ _ _ h => h) (.inl ⟨by rfl, fun w hS => ?_⟩) ?_
    rotate_left
    · have e1 := rdB_opt (rdB.ext hS h4)
      go_simp
      refine ⟨?_, hS⟩
      with_reducible rfl
    simp only [Act.put, List.setIfInBounds_toArray, List.set_cons_zero, List.set_cons_succ]
    refine wpAnyS_go (i := 2) (some 52) (v := ?_) rfl rfl (by kernel_rfl) (by kernel_rfl) (by kernel_rfl) (fun _ _ _ h => h) (.inl ⟨by rfl, fun w hS => ?_⟩) ?_
    rotate_left
    · have e1 := rdB_opt (rdB.ext hS h5)
      go_simp
      refine ⟨?_, hS⟩
      with_reducible rfl
    simp only [Act.put, List.setIfInBounds_toArray, List.set_cons_zero, List.set_cons_succ]
    refine wpAnyS_go (i := 3) (some 53) (v := ?_) rfl rfl (by kernel_rfl) (by kernel_rfl) (by kernel_rfl) (fun _ _ _ h => h) (.inl ⟨by rfl, fun w hS => ?_⟩) ?_
    rotate_left
    · go_simp
      change Calls _ _ _ _ _
      refine Calls.mono (fadd_any _ _ _) ?_
      rintro e w' ⟨rfl, hx⟩
      refine ⟨?_, hS.trans hx⟩
      with_reducible rfl
    simp only [Act.put, List.setIfInBounds_toArray, List.set_cons_zero, List.set_cons_succ]
    refine wpAnyS_go (i := 4) (some 54) (v := ?_) rfl rfl (by kernel_rfl) (by kernel_rfl) (by kernel_rfl) (fun _ _ _ h => h) (.inl ⟨by rfl, fun w hS => ?_⟩) ?_
    rotate_left
    · go_simp
      change Calls _ _ _ _ _
      refine Calls.mono (fmul_any _ _ _) ?_
      rintro e w' ⟨rfl, hx⟩
      refine ⟨?_, hS.trans hx⟩
      with_reducible rfl
    simp only [Act.put, List.setIfInBounds_toArray, List.set_cons_zero, List.set_cons_succ]
    refine wpAnyS_go (i := 5) (some 55) (v := ?_) rfl rfl (by kernel_rfl) (by kernel_rfl) (by kernel_rfl) (fun _ _ _ h => h) (.inl ⟨by rfl, fun w hS => ?_⟩) ?_
    rotate_left
    · have e1 := rdB_opt (rdB.ext hS h3)
      go_simp
      refine ⟨?_, hS⟩
      with_reducible rfl
    simp only [Act.put, List.setIfInBounds_toArray, List.set_cons_zero, List.set_cons_succ]
    refine wpAnyS_go (i := 6) (some 56) (v := ?_) rfl rfl (by kernel_rfl) (by kernel_rfl) (by kernel_rfl) (fun _ _ _ h => h) (.inl ⟨by rfl, fun w hS => ?_⟩) ?_
    rotate_left
    · have e1 := rdB_opt (rdB.ext hS h4)
      go_simp
      refine ⟨?_, hS⟩
      with_reducible rfl
    simp only [Act.put, List.setIfInBounds_toArray, List.set_cons_zero, List.set_cons_succ]
    refine wpAnyS_go (i := 7) (some 57) (v := ?_) rfl rfl (by kernel_rfl) (by kernel_rfl) (by kernel_rfl) (fun _ _ _ h => h) (.inl ⟨by rfl, fun w hS => ?_⟩) ?_
    rotate_left
    · go_simp
      change Calls _ _ _ _ _
      refine Calls.mono (fmul_any _ _ _) ?_
      rintro e w' ⟨rfl, hx⟩
      refine ⟨?_, hS.trans hx⟩
      with_reducible rfl
    simp only [Act.put, List.setIfInBounds_toArray, List.set_cons_zero, List.set_cons_succ]
    refine wpAnyS_go (i := 8) (some 58) (v := ?_) rfl rfl (by kernel_rfl) (by kernel_rfl) (by kernel_rfl) (fun _ _ _ h => h) (.inl ⟨by rfl, fun w hS => ?_⟩) ?_
    rotate_left
    · have e1 := rdB_opt (rdB.ext hS h3)
      go_simp
      refine ⟨?_, hS⟩
      with_reducible rfl
    simp only [Act.put, List.setIfInBounds_toArray, List.set_cons_zero, List.set_cons_succ]
    refine wpAnyS_go (i := 9) (some 59) (v := ?_) rfl rfl (by kernel_rfl) (by kernel_rfl) (by kernel_rfl) (fun _ _ _ h => h) (.inl ⟨by rfl, fun w hS => ?_⟩) ?_
    rotate_left
    · have e1 := rdB_opt (rdB.ext hS h5)
      go_simp
      refine ⟨?_, hS⟩
      with_reducible rfl
    simp only [Act.put, List.setIfInBounds_toArray, List.set_cons_zero, List.set_cons_succ]
    refine wpAnyS_go (i := 10) (some 60) (v := ?_) rfl rfl (by kernel_rfl) (by kernel_rfl) (by kernel_rfl) (fun _ _ _ h => h) (.inl ⟨by rfl, fun w hS => ?_⟩) ?_
    rotate_left
    · go_simp
      change Calls _ _ _ _ _
      refine Calls.mono (fmul_any _ _ _) ?_
      rintro e w' ⟨rfl, hx⟩
      refine ⟨?_, hS.trans hx⟩
      with_reducible rfl
    simp only [Act.put, List.setIfInBounds_toArray, List.set_cons_zero, List.set_cons_succ]
    refine wpAnyS_go (i := 11) (some 61) (v := ?_) rfl rfl (by kernel_rfl) (by kernel_rfl) (by kernel_rfl) (fun _ _ _ h => h) (.inl ⟨by rfl, fun w hS => ?_⟩) ?_
    rotate_left
    · go_simp
      change Calls _ _ _ _ _
      refine Calls.mono (fadd_any _ _ _) ?_
      rintro e w' ⟨rfl, hx⟩
      refine ⟨?_, hS.trans hx⟩
      with_reducible rfl
    simp only [Act.put, List.setIfInBounds_toArray, List.set_cons_zero, List.set_cons_succ]
    refine wpAnyS_go (i := 12) (some 62) (v := ?_) rfl rfl (by kernel_rfl) (by kernel_rfl) (by kernel_rfl) (fun _ _ _ h => h) (.inl ⟨by rfl, fun w hS => ?_⟩) ?_
    rotate_left
    · (try go_simp)
      refine ⟨?_, hS⟩
      with_reducible rfl
    simp only [Act.put, List.setIfInBounds_toArray, List.set_cons_zero, List.set_cons_succ]
    refine wpAnyS_go (i := 13) (some 63) (v := ?_) rfl rfl (by kernel_rfl) (by kernel_rfl) (by kernel_rfl) (fun _ _ _ h => h) (.inl ⟨by rfl, fun w hS => ?_⟩) ?_
    rotate_left
    · (try go_simp)
      refine ⟨?_, hS⟩
      with_reducible rfl
    simp only [Act.put, List.setIfInBounds_toArray, List.set_cons_zero, List.set_cons_succ]
    refine wpAnyS_go (i := 14) (some 64) (v := ?_) rfl rfl (by kernel_rfl) (by kernel_rfl) (by kernel_rfl) (fun _ _ _ h => h) (.inl ⟨by rfl, fun w hS => ?_⟩) ?_
    rotate_left
    · have e1 := rdB_opt (rdB.ext hS h3)
      go_simp
      refine ⟨?_, hS⟩
      with_reducible rfl
    simp only [Act.put, List.setIfInBounds_toArray, List.set_cons_zero, List.set_cons_succ]
    refine wpAnyS_go (i := 15) (some 65) (v := ?_) rfl rfl (by kernel_rfl) (by kernel_rfl) (by kernel_rfl) (fun _ _ _ h => h) (.inl ⟨by rfl, fun w hS => ?_⟩) ?_
    rotate_left
    · have e1 := rdB_opt (rdB.ext hS h4)
      go_simp
      refine ⟨?_, hS⟩
      with_reducible rfl
    simp only [Act.put, List.setIfInBounds_toArray, List.set_cons_zero, List.set_cons_succ]
    refine wpAnyS_go (i := 16) (some 66) (v := ?_) rfl rfl (by kernel_rfl) (by kernel_rfl) (by kernel_rfl) (fun _ _ _ h => h) (.inl ⟨by rfl, fun w hS => ?_⟩) ?_
    rotate_left
    · go_simp
      change Calls _ _ _ _ _
      refine Calls.mono (fsub_any _ _ _) ?_
      rintro e w' ⟨rfl, hx⟩
      refine ⟨?_, hS.trans hx⟩
      with_reducible rfl
    simp only [Act.put, List.setIfInBounds_toArray, List.set_cons_zero, List.set_cons_succ]
    refine wpAnyS_go (i := 17) (some 67) (v := ?_) rfl rfl (by kernel_rfl) (by kernel_rfl) (by kernel_rfl) (fun _ _ _ h => h) (.inl ⟨by rfl, fun w hS => ?_⟩) ?_
    rotate_left
    · have e1 := rdB_opt (rdB.ext hS h4)
      go_simp
      refine ⟨?_, hS⟩
      with_reducible rfl
    simp only [Act.put, List.setIfInBounds_toArray, List.set_cons_zero, List.set_cons_succ]
    refine wpAnyS_go (i := 18) (some 68) (v := ?_) rfl rfl (by kernel_rfl) (by kernel_rfl) (by kernel_rfl) (fun _ _ _ h => h) (.inl ⟨by rfl, fun w hS => ?_⟩) ?_
    rotate_left
    · go_simp
      change Calls _ _ _ _ _
      refine Calls.mono (fadd_any _ _ _) ?_
      rintro e w' ⟨rfl, hx⟩
      refine ⟨?_, hS.trans hx⟩
      with_reducible rfl
    simp only [Act.put, List.setIfInBounds_toArray, List.set_cons_zero, List.set_cons_succ]
    refine wpAnyS_go (i := 19) (some 69) (v := ?_) rfl rfl (by kernel_rfl) (by kernel_rfl) (by kernel_rfl) (fun _ _ _ h => h) (.inl ⟨by rfl, fun w hS => ?_⟩) ?_
    rotate_left
    · have e1 := rdB_opt (rdB.ext hS h3)
      go_simp
      refine ⟨?_, hS⟩
      with_reducible rfl
    simp only [Act.put, List.setIfInBounds_toArray, List.set_cons_zero, List.set_cons_succ]
    refine wpAnyS_go (i := 20) (some 70) (v := ?_) rfl rfl (by kernel_rfl) (by kernel_rfl) (by kernel_rfl) (fun _ _ _ h => h) (.inl ⟨by rfl, fun w hS => ?_⟩) ?_
    rotate_left
    · go_simp
      change Calls _ _ _ _ _
      refine Calls.mono (reduce_any _ _) ?_
      rintro e w' ⟨rfl, hx⟩
      refine ⟨?_, hS.trans hx⟩
      with_reducible rfl
    simp only [Act.put, List.setIfInBounds_toArray, List.set_cons_zero, List.set_cons_succ]
    refine wpAnyS_go (i := 21) (some 71) (v := ?_) rfl rfl (by kernel_rfl) (by kernel_rfl) (by kernel_rfl) (fun _ _ _ h => h) (.inl ⟨by rfl, fun w hS => ?_⟩) ?_
    rotate_left
    · (try go_simp)
      refine ⟨?_, hS⟩
      with_reducible rfl
    simp only [Act.put, List.setIfInBounds_toArray, List.set_cons_zero, List.set_cons_succ]
    refine wpAnyS_go (i := 22) (some 72) (v := ?_) rfl rfl (by kernel_rfl) (by kernel_rfl) (by kernel_rfl) (fun _ _ _ h => h) (.inl ⟨by rfl, fun w hS => ?_⟩) ?_
    rotate_left
    · (try go_simp)
      refine ⟨?_, hS⟩
      with_reducible rfl
    simp only [Act.put, List.setIfInBounds_toArray, List.set_cons_zero, List.set_cons_succ]
    refine wpAnyS_go (i := 23) (some 9) (v := ?_) rfl rfl (by kernel_rfl) (by kernel_rfl) (by kernel_rfl) (fun _ _ _ h => h) (.inl ⟨by rfl, fun w hS => ?_⟩) ?_
    rotate_left
    · (try go_simp)
      refine ⟨?_, hS⟩
      with_reducible rfl
    simp only [Act.put, List.setIfInBounds_toArray, List.set_cons_zero, List.set_cons_succ]
    refine wpAnyS_done (by kernel_rfl) fun w hS => ?_
    go_wp2
    go_meet
    case rel => exact ⟨rfl, hS⟩
  case rest =>
  obtain ⟨rfl, hx⟩ := hcut
  replace h3 := rdB.ext hx h3
  replace h4 := rdB.ext hx h4
  replace h5 := rdB.ext hx h5
  replace HE := HE.trans hx
  clear hx
  go_upto_region 4 with fail
  go_cut [10] from 73 to 98 (fun p wx => p = .bool true ∧ Ext wc wx)
  case first =>
    refine wp_region_sure (fun w' => Ext wc w') (by kernel_rfl) (ext_drew _) ?_
    refine wpAnyS_go (i := 0) (some 73) (v := ?_) rfl rfl (by kernel_rfl) (by kernel_rfl) (by kernel_rfl) (fun _ _ _ h => h) (.inl ⟨by rfl, fun w hS => ?_⟩) ?_
    rotate_left
    · have e1 := rdB_opt (rdB.ext hS h3)
      go_simp
      refine ⟨?_, hS⟩
      with_reducible rfl
    simp only [Act.put, List.setIfInBounds_toArray, List.set_cons_zero, List.set_cons_succ]
    refine wpAnyS_go (i := 1) (some 74) (v := ?_) rfl rfl (by kernel_rfl) (by kernel_rfl) (by kernel_rfl) (fun _ _ _ h => h) (.inl ⟨by rfl, fun w hS => ?_⟩) ?_
    rotate_left
    · have e1 := rdB_opt (rdB.ext hS h4)
      go_simp
      refine ⟨?_, hS⟩
      with_reducible rfl
    simp only [Act.put, List.setIfInBounds_toArray, List.set_cons_zero, List.set_cons_succ]
    refine wpAnyS_go (i := 2) (some 75) (v := ?_) rfl rfl (by kernel_rfl) (by kernel_rfl) (by kernel_rfl) (fun _ _ _ h => h) (.inl ⟨by rfl, fun w hS => ?_⟩) ?_
    rotate_left
    · go_simp
      change Calls _ _ _ _ _
      refine Calls.mono (fadd_any _ _ _) ?_
      rintro e w' ⟨rfl, hx⟩
      refine ⟨?_, hS.trans hx⟩
      with_reducible rfl
    simp only [Act.put, List.setIfInBounds_toArray, List.set_cons_zero, List.set_cons_succ]
    refine wpAnyS_go (i := 3) (some 76) (v := ?_) rfl rfl (by kernel_rfl) (by kernel_rfl) (by kernel_rfl) (fun _ _ _ h => h) (.inl ⟨by rfl, fun w hS => ?_⟩) ?_
    rotate_left
    · have e1 := rdB_opt (rdB.ext hS h5)
      go_simp
      refine ⟨?_, hS⟩
      with_reducible rfl
    simp only [Act.put, List.setIfInBounds_toArray, List.set_cons_zero, List.set_cons_succ]
    refine wpAnyS_go (i := 4) (some 77) (v := ?_) rfl rfl (by kernel_rfl) (by kernel_rfl) (by kernel_rfl) (fun _ _ _ h => h) (.inl ⟨by rfl, fun w hS => ?_⟩) ?_
    rotate_left
    · go_simp
      change Calls _ _ _ _ _
      refine Calls.mono (fadd_any _ _ _) ?_
      rintro e w' ⟨rfl, hx⟩
      refine ⟨?_, hS.trans hx⟩
      with_reducible rfl
    simp only [Act.put, List.setIfInBounds_toArray, List.set_cons_zero, List.set_cons_succ]
    refine wpAnyS_go (i := 5) (some 78) (v := ?_) rfl rfl (by kernel_rfl) (by kernel_rfl) (by kernel_rfl) (fun _ _ _ h => h) (.inl ⟨by rfl, fun w hS => ?_⟩) ?_
    rotate_left
    · have e1 := rdB_opt (rdB.ext hS h3)
      go_simp
      refine ⟨?_, hS⟩
      with_reducible rfl
    simp only [Act.put, List.setIfInBounds_toArray, List.set_cons_zero, List.set_cons_succ]
    refine wpAnyS_go (i := 6) (some 79) (v := ?_) rfl rfl (by kernel_rfl) (by kernel_rfl) (by kernel_rfl) (fun _ _ _ h => h) (.inl ⟨by rfl, fun w hS => ?_⟩) ?_
    rotate_left
    · have e1 := rdB_opt (rdB.ext hS h4)
      go_simp
      refine ⟨?_, hS⟩
      with_reducible rfl
    simp only [Act.put, List.setIfInBounds_toArray, List.set_cons_zero, List.set_cons_succ]
    refine wpAnyS_go (i := 7) (some 80) (v := ?_) rfl rfl (by kernel_rfl) (by kernel_rfl) (by kernel_rfl) (fun _ _ _ h => h) (.inl ⟨by rfl, fun w hS => ?_⟩) ?_
    rotate_left
    · have e1 := rdB_opt (rdB.ext hS h5)
      go_simp
      refine ⟨?_, hS⟩
      with_reducible rfl
    simp only [Act.put, List.setIfInBounds_toArray, List.set_cons_zero, List.set_cons_succ]
    refine wpAnyS_go (i := 8) (some 81) (v := ?_) rfl rfl (by kernel_rfl) (by kernel_rfl) (by kernel_rfl) (fun _ _ _ h => h) (.inl ⟨by rfl, fun w hS => ?_⟩) ?_
    rotate_left
    · go_simp
      change Calls _ _ _ _ _
      refine Calls.mono (fadd_any _ _ _) ?_
      rintro e w' ⟨rfl, hx⟩
      refine ⟨?_, hS.trans hx⟩
      with_reducible rfl
    simp only [Act.put, List.setIfInBounds_toArray, List.set_cons_zero, List.set_cons_succ]
    refine wpAnyS_go (i := 9) (some 82) (v := ?_) rfl rfl (by kernel_rfl) (by kernel_rfl) (by kernel_rfl) (fun _ _ _ h => h) (.inl ⟨by rfl, fun w hS => ?_⟩) ?_
    rotate_left
    · go_simp
      change Calls _ _ _ _ _
      refine Calls.mono (fadd_any _ _ _) ?_
      rintro e w' ⟨rfl, hx⟩
      refine ⟨?_, hS.trans hx⟩
      with_reducible rfl
    simp only [Act.put, List.setIfInBounds_toArray, List.set_cons_zero, List.set_cons_succ]
    refine wpAnyS_go (i := 10) (some 83) (v := ?_) rfl rfl (by kernel_rfl) (by kernel_rfl) (by kernel_rfl) (fun _ _ _ h => h) (.inl ⟨by rfl, fun w hS => ?_⟩) ?_
    rotate_left
    · (try go_simp)
      refine ⟨?_, hS⟩
      with_reducible rfl
    simp only [Act.put, List.setIfInBounds_toArray, List.set_cons_zero, List.set_cons_succ]
    refine wpAnyS_go (i := 11) (some 84) (v := ?_) rfl rfl (by kernel_rfl) (by kernel_rfl) (by kernel_rfl) (fun _ _ _ h => h) (.inl ⟨by rfl, fun w hS => ?_⟩) ?_
    rotate_left
    · (try go_simp)
      refine ⟨?_, hS⟩
      with_reducible rfl
    simp only [Act.put, List.setIfInBounds_toArray, List.set_cons_zero, List.set_cons_succ]
    refine wpAnyS_go (i := 12) (some 85) (v := ?_) rfl rfl (by kernel_rfl) (by kernel_rfl) (by kernel_rfl) (fun _ _ _ h => h) (.inl ⟨by rfl, fun w hS => ?_⟩) ?_
    rotate_left
    · have e1 := rdB_opt (rdB.ext hS h3)
      go_simp
      refine ⟨?_, hS⟩
      with_reducible rfl
    simp only [Act.put, List.setIfInBounds_toArray, List.set_cons_zero, List.set_cons_succ]
    refine wpAnyS_go (i := 13) (some 86) (v := ?_) rfl rfl (by kernel_rfl) (by kernel_rfl) (by kernel_rfl) (fun _ _ _ h => h) (.inl ⟨by rfl, fun w hS => ?_⟩) ?_
    rotate_left
    · go_simp
      change Calls _ _ _ _ _
      refine Calls.mono (small_1 _) ?_
      rintro e w' ⟨rfl, hx⟩
      refine ⟨?_, hS.trans hx⟩
      with_reducible rfl
    simp only [Act.put, List.setIfInBounds_toArray, List.set_cons_zero, List.set_cons_succ]
    refine wpAnyS_go (i := 14) (some 87) (v := ?_) rfl rfl (by kernel_rfl) (by kernel_rfl) (by kernel_rfl) (fun _ _ _ h => h) (.inl ⟨by rfl, fun w hS => ?_⟩) ?_
    rotate_left
    · go_simp
      change Calls _ _ _ _ _
      refine Calls.mono (fmul_any _ _ _) ?_
      rintro e w' ⟨rfl, hx⟩
      refine ⟨?_, hS.trans hx⟩
      with_reducible rfl
    simp only [Act.put, List.setIfInBounds_toArray, List.set_cons_zero, List.set_cons_succ]
    refine wpAnyS_go (i := 15) (some 88) (v := ?_) rfl rfl (by kernel_rfl) (by kernel_rfl) (by kernel_rfl) (fun _ _ _ h => h) (.inl ⟨by rfl, fun w hS => ?_⟩) ?_
    rotate_left
    · have e1 := rdB_opt (rdB.ext hS h3)
      go_simp
      refine ⟨?_, hS⟩
      with_reducible rfl
    simp only [Act.put, List.setIfInBounds_toArray, List.set_cons_zero, List.set_cons_succ]
    refine wpAnyS_go (i := 16) (some 89) (v := ?_) rfl rfl (by kernel_rfl) (by kernel_rfl) (by kernel_rfl) (fun _ _ _ h => h) (.inl ⟨by rfl, fun w hS => ?_⟩) ?_
    rotate_left
    · go_simp
      change Calls _ _ _ _ _
      refine Calls.mono (reduce_any _ _) ?_
      rintro e w' ⟨rfl, hx⟩
      refine ⟨?_, hS.trans hx⟩
      with_reducible rfl
    simp only [Act.put, List.setIfInBounds_toArray, List.set_cons_zero, List.set_cons_succ]
    refine wpAnyS_go (i := 17) (some 90) (v := ?_) rfl rfl (by kernel_rfl) (by kernel_rfl) (by kernel_rfl) (fun _ _ _ h => h) (.inl ⟨by rfl, fun w hS => ?_⟩) ?_
    rotate_left
    · (try go_simp)
      refine ⟨?_, hS⟩
      with_reducible rfl
    simp only [Act.put, List.setIfInBounds_toArray, List.set_cons_zero, List.set_cons_succ]
    refine wpAnyS_go (i := 18) (some 91) (v := ?_) rfl rfl (by kernel_rfl) (by kernel_rfl) (by kernel_rfl) (fun _ _ _ h => h) (.inl ⟨by rfl, fun w hS => ?_⟩) ?_
    rotate_left
    · (try go_simp)
      refine ⟨?_, hS⟩
      with_reducible rfl
    simp only [Act.put, List.setIfInBounds_toArray, List.set_cons_zero, List.set_cons_succ]
    refine wpAnyS_go (i := 19) (some 92) (v := ?_) rfl rfl (by kernel_rfl) (by kernel_rfl) (by kernel_rfl) (fun _ _ _ h => h) (.inl ⟨by rfl, fun w hS => ?_⟩) ?_
    rotate_left
    · (try go_simp)
      refine ⟨?_, hS⟩
      with_reducible rfl
    simp only [Act.put, List.setIfInBounds_toArray, List.set_cons_zero, List.set_cons_succ]
    refine wpAnyS_go (i := 20) (some 93) (v := ?_) rfl rfl (by kernel_rfl) (by kernel_rfl) (by kernel_rfl) (fun _ _ _ h => h) (.inl ⟨by rfl, fun w hS => ?_⟩) ?_
    rotate_left
    · have e1 := rdB_opt (rdB.ext hS h3)
      go_simp
      refine ⟨?_, hS⟩
      with_reducible rfl
    simp only [Act.put, List.setIfInBounds_toArray, List.set_cons_zero, List.set_cons_succ]
    refine wpAnyS_go (i := 21) (some 94) (v := ?_) rfl rfl (by kernel_rfl) (by kernel_rfl) (by kernel_rfl) (fun _ _ _ h => h) (.inl ⟨by rfl, fun w hS => ?_⟩) ?_
    rotate_left
    · have e1 := rdB_opt (rdB.ext hS h3)
      go_simp
      refine ⟨?_, hS⟩
      with_reducible rfl
    simp only [Act.put, List.setIfInBounds_toArray, List.set_cons_zero, List.set_cons_succ]
    refine wpAnyS_go (i := 22) (some 95) (v := ?_) rfl rfl (by kernel_rfl) (by kernel_rfl) (by kernel_rfl) (fun _ _ _ h => h) (.inl ⟨by rfl, fun w hS => ?_⟩) ?_
    rotate_left
    · go_simp
      change Calls _ _ _ _ _
      refine Calls.mono (fsub_any _ _ _) ?_
      rintro e w' ⟨rfl, hx⟩
      refine ⟨?_, hS.trans hx⟩
      with_reducible rfl
    simp only [Act.put, List.setIfInBounds_toArray, List.set_cons_zero, List.set_cons_succ]
    refine wpAnyS_go (i := 23) (some 96) (v := ?_) rfl rfl (by kernel_rfl) (by kernel_rfl) (by kernel_rfl) (fun _ _ _ h => h) (.inl ⟨by rfl, fun w hS => ?_⟩) ?_
    rotate_left
    · go_simp
      change Calls _ _ _ _ _
      refine Calls.mono (small_0 _) ?_
      rintro e w' ⟨rfl, hx⟩
      refine ⟨?_, hS.trans hx⟩
      with_reducible rfl
    simp only [Act.put, List.setIfInBounds_toArray, List.set_cons_zero, List.set_cons_succ]
    refine wpAnyS_go (i := 24) (some 97) (v := ?_) rfl rfl (by kernel_rfl) (by kernel_rfl) (by kernel_rfl) (fun _ _ _ h => h) (.inl ⟨by rfl, fun w hS => ?_⟩) ?_
    rotate_left
    · (try go_simp)
      refine ⟨?_, hS⟩
      with_reducible rfl
    simp only [Act.put, List.setIfInBounds_toArray, List.set_cons_zero, List.set_cons_succ]
    refine wpAnyS_go (i := 25) (some 98) (v := ?_) rfl rfl (by kernel_rfl) (by kernel_rfl) (by kernel_rfl) (fun _ _ _ h => h) (.inl ⟨by rfl, fun w hS => ?_⟩) ?_
    rotate_left
    · (try go_simp)
      refine ⟨?_, hS⟩
      with_reducible rfl
    simp only [Act.put, List.setIfInBounds_toArray, List.set_cons_zero, List.set_cons_succ]
    refine wpAnyS_go (i := 26) (some 10) (v := ?_) rfl rfl (by kernel_rfl) (by kernel_rfl) (by kernel_rfl) (fun _ _ _ h => h) (.inl ⟨by rfl, fun w hS => ?_⟩) ?_
    rotate_left
    · (try go_simp)
      refine ⟨?_, hS⟩
      with_reducible rfl
    simp only [Act.put, List.setIfInBounds_toArray, List.set_cons_zero, List.set_cons_succ]
    refine wpAnyS_done (by kernel_rfl) fun w hS => ?_
    go_wp2
    go_meet
    case rel => exact ⟨rfl, hS⟩
  case rest =>
  obtain ⟨rfl, hx⟩ := hcut
  replace h3 := rdB.ext hx h3
  replace h4 := rdB.ext hx h4
  replace h5 := rdB.ext hx h5
  replace HE := HE.trans hx
  clear hx
  clear e1 e2 e3 e4 e5 e6 e7 e8 h5
  go_upto_region 7 with fail
  have o3 := rdB_opt h3
  have s3 := h3.lt
  cases z with
  | true =>
    replace HZ := Lib.hid (HZ.out rfl)
    clear HI HR2 em
    go_cut [11, 12] from 109 to 113 (fun p11 p12 wx => ∃ n : Nat, p11 = .pointer (some ⟨n, 0, none⟩) ∧ p12 = (.iface 30 (.int .i64 28)) ∧ Ext wc wx)
    case first =>
      go_wp2_with (go_at_call 14; with_reducible refine (HZ.out _).mono ?_; rintro e w' ⟨rfl, hx⟩; obtain ⟨l', rfl⟩ := grw_of_ext hx; clear hx)
      go_meet
      case rel => exact ⟨_, rfl, rfl, (grw_ext _ _).trans (ext_alloc _ _)⟩
    case rest =>
    obtain ⟨n11, rfl, rfl, hx⟩ := hcut
    replace h3 := rdB.ext hx h3
    replace h4 := rdB.ext hx h4
    replace HE := HE.trans hx
    clear hx
    clear o3 s3
    have o3 := rdB_opt h3
    have s3 := h3.lt
    go_upto_region 8 with fail
    go_cut [117] from 114 to 117 (fun p wx => p = .bool true ∧ Ext wc wx)
    case first =>
      go_wp2_with (first | (go_at_call 27; with_reducible refine (reduce_any _ _).mono ?_; rintro e w' ⟨rfl, hx⟩; obtain ⟨l', rfl⟩ := grw_of_ext hx; clear hx) | (go_at_call 16; with_reducible refine (small_0 _).mono ?_; rintro e w' ⟨rfl, hx⟩; obtain ⟨l', rfl⟩ := grw_of_ext hx; clear hx))
      go_meet
      case rel => exact ⟨rfl, grw_ext _ _⟩
    case rest =>
    obtain ⟨rfl, hx⟩ := hcut
    replace h3 := rdB.ext hx h3
    replace h4 := rdB.ext hx h4
    replace HE := HE.trans hx
    clear hx o3 s3
    go_wp2
    go_ret
    exact ⟨rfl, HE⟩
  | false =>
    replace HI := Lib.hid (HI.out rfl)
    replace HR2 := Lib.hid (HR2.out rfl)
    replace em := Lib.hid (em.out rfl)
    clear HZ
    go_cut [11, 12] from 109 to 113 (fun p11 p12 wx => ∃ n : Nat, p11 = .pointer (some ⟨n, 0, none⟩) ∧ p12 = .nilIface ∧ rdB wx n (i) ∧ Ext wc wx)
    case first =>
      go_wp2_with (go_at_call 14; with_reducible refine (HI.out _).mono ?_; rintro e w' ⟨rfl, hx⟩; obtain ⟨l', rfl⟩ := grw_of_ext hx; clear hx)
      go_meet
      case rel => exact ⟨_, rfl, rfl, rdB.new_ _ _ _ rfl, (grw_ext _ _).trans (ext_alloc _ _)⟩
    case rest =>
    obtain ⟨n11, rfl, rfl, h11, hx⟩ := hcut
    replace h3 := rdB.ext hx h3
    replace h4 := rdB.ext hx h4
    replace HE := HE.trans hx
    clear hx
    clear o3 s3
    have o3 := rdB_opt h3
    have s3 := h3.lt
    go_upto_region 8 with fail
    go_cut [117] from 114 to 117 (fun p wx => p = .bool false ∧ Ext wc wx)
    case first =>
      go_wp2_with (first | (go_at_call 27; with_reducible refine (reduce_any _ _).mono ?_; rintro e w' ⟨rfl, hx⟩; obtain ⟨l', rfl⟩ := grw_of_ext hx; clear hx) | (go_at_call 16; with_reducible refine (small_0 _).mono ?_; rintro e w' ⟨rfl, hx⟩; obtain ⟨l', rfl⟩ := grw_of_ext hx; clear hx))
      go_meet
      case rel => exact ⟨rfl, grw_ext _ _⟩
    case rest =>
    obtain ⟨rfl, hx⟩ := hcut
    replace h3 := rdB.ext hx h3
    replace h4 := rdB.ext hx h4
    replace h11 := rdB.ext hx h11
    replace HE := HE.trans hx
    clear hx o3 s3
    go_upto_region 10 with fail
    have o3 := rdB_opt h3
    have s3 := h3.lt
    have o4 := rdB_opt h4
    have s4 := h4.lt
    go_cut [14] from 124 to 128 (fun p wx => p = er k ∧ Ext wc wx)
    case first =>
      go_wp2_with (go_at_call 19; with_reducible refine (HR1.out _).mono ?_; rintro e w' ⟨r, rfl, hx⟩; obtain ⟨l', rfl⟩ := grw_of_ext hx; clear hx)
      go_meet
      case rel => exact ⟨rfl, (grw_ext _ _).trans (ext_alloc _ _)⟩
    case rest =>
    obtain ⟨rfl, hx⟩ := hcut
    replace h3 := rdB.ext hx h3
    replace h4 := rdB.ext hx h4
    replace h11 := rdB.ext hx h11
    replace HE := HE.trans hx
    clear hx o3 s3 o4 s4
    go_upto_region 11 with fail
    have o3 := rdB_opt h3
    have s3 := h3.lt
    have o4 := rdB_opt h4
    have s4 := h4.lt
    go_cut [16] from 129 to 135 (fun p wx => p = er (!k) ∧ Ext wc wx)
    case first =>
      go_wp2_with (first | (go_at_call 21; with_reducible refine (fadd_any _ _ _).mono ?_; rintro e w' ⟨rfl, hx⟩; obtain ⟨l', rfl⟩ := grw_of_ext hx; clear hx) | (go_at_call 19; with_reducible refine (HR2.out _).mono ?_; rintro e w' ⟨r, rfl, hx⟩; obtain ⟨l', rfl⟩ := grw_of_ext hx; clear hx))
      go_meet
      case rel => exact ⟨rfl, (grw_ext _ _).trans (ext_alloc _ _)⟩
    case rest =>
    obtain ⟨rfl, hx⟩ := hcut
    replace h3 := rdB.ext hx h3
    replace h4 := rdB.ext hx h4
    replace h11 := rdB.ext hx h11
    replace HE := HE.trans hx
    clear hx o3 s3 o4 s4
    have o3 := rdB_opt h3
    have s3 := h3.lt
    have o4 := rdB_opt h4
    have s4 := h4.lt
    go_upto_region 12 with fail
    go_cut [17, 18] from 136 to 142 (fun p17 p18 wx => ∃ n : Nat, p17 = .pointer (some ⟨n, 0, none⟩) ∧ p18 = .nilIface ∧ rdB wx n (s) ∧ Ext wc wx)
    case first =>
      go_wp2_with (first | (go_at_call 25; with_reducible refine (fmul_any _ _ _).mono ?_; rintro e w' ⟨rfl, hx⟩; obtain ⟨l', rfl⟩ := grw_of_ext hx; clear hx) | (go_at_call 19; with_reducible refine (HR3.out _).mono ?_; rintro e w' ⟨rfl, hx⟩; obtain ⟨l', rfl⟩ := grw_of_ext hx; clear hx))
      go_meet
      case rel => exact ⟨_, rfl, rfl, rdB.new_ _ _ _ rfl, (grw_ext _ _).trans (ext_alloc _ _)⟩
    case rest =>
    obtain ⟨n17, rfl, rfl, h17, hx⟩ := hcut
    replace h3 := rdB.ext hx h3
    replace h4 := rdB.ext hx h4
    replace h11 := rdB.ext hx h11
    replace HE := HE.trans hx
    clear hx
    clear o3 s3 o4 s4
    go_upto_region 13 with fail
    go_cut [19] from 143 to 153 (fun p wx => p = .bool true ∧ Ext wc wx)
    case first =>
      rcases eb.out with eb1 | ⟨eb1, eb2⟩
      · refine wp_region_sure (fun w' => Ext wc w') (by kernel_rfl) (ext_drew _) ?_
        refine wpAnyS_go (i := 0) (some 143) (v := ?_) rfl rfl (by kernel_rfl) (by kernel_rfl) (by kernel_rfl) (fun _ _ _ h => h) (.inl ⟨by rfl, fun w hS => ?_⟩) ?_
        rotate_left
        · have e1 := rdB_opt (rdB.ext hS h17)
          go_simp
          refine ⟨?_, hS⟩
          with_reducible rfl
        simp only [Act.put, List.setIfInBounds_toArray, List.set_cons_zero, List.set_cons_succ]
        refine wpAnyS_go (i := 1) (some 144) (v := ?_) rfl rfl (by kernel_rfl) (by kernel_rfl) (by kernel_rfl) (fun _ _ _ h => h) (.inl ⟨by rfl, fun w hS => ?_⟩) ?_
        rotate_left
        · have e1 := rdB_opt (rdB.ext hS h4)
          go_simp
          refine ⟨?_, hS⟩
          with_reducible rfl
        simp only [Act.put, List.setIfInBounds_toArray, List.set_cons_zero, List.set_cons_succ]
        refine wpAnyS_go (i := 2) (some 145) (v := ?_) rfl rfl (by kernel_rfl) (by kernel_rfl) (by kernel_rfl) (fun _ _ _ h => h) (.inl ⟨by rfl, fun w hS => ?_⟩) ?_
        rotate_left
        · go_simp
          change Calls _ _ _ _ _
          refine Calls.mono (reduce_any _ _) ?_
          rintro e w' ⟨rfl, hx⟩
          refine ⟨?_, hS.trans hx⟩
          with_reducible rfl
        simp only [Act.put, List.setIfInBounds_toArray, List.set_cons_zero, List.set_cons_succ]
        refine wpAnyS_go (i := 3) (some 146) (v := ?_) rfl rfl (by kernel_rfl) (by kernel_rfl) (by kernel_rfl) (fun _ _ _ h => h) (.inl ⟨by rfl, fun w hS => ?_⟩) ?_
        rotate_left
        · (try go_simp)
          refine ⟨?_, hS⟩
          with_reducible rfl
        simp only [Act.put, List.setIfInBounds_toArray, List.set_cons_zero, List.set_cons_succ]
        refine wpAnyS_go (i := 4) (some 147) (v := ?_) rfl rfl (by kernel_rfl) (by kernel_rfl) (by kernel_rfl) (fun _ _ _ h => h) (.inl ⟨by rfl, fun w hS => ?_⟩) ?_
        rotate_left
        · (try go_simp)
          refine ⟨?_, hS⟩
          with_reducible rfl
        simp only [Act.put, List.setIfInBounds_toArray, List.set_cons_zero, List.set_cons_succ]
        refine wpAnyS_go (i := 5) (some 148) rfl rfl (by kernel_rfl) (by kernel_rfl) (by kernel_rfl) (fun _ _ _ h => h) (.inr ⟨by rfl, rfl⟩) ?_
        simp only [Act.put, List.setIfInBounds_toArray, List.set_cons_zero, List.set_cons_succ]
        refine wpAnyS_go (i := 6) (some 149) rfl rfl (by kernel_rfl) (by kernel_rfl) (by kernel_rfl) (fun _ _ _ h => h) (.inr ⟨by rfl, rfl⟩) ?_
        simp only [Act.put, List.setIfInBounds_toArray, List.set_cons_zero, List.set_cons_succ]
        refine wpAnyS_go (i := 7) (some 150) rfl rfl (by kernel_rfl) (by kernel_rfl) (by kernel_rfl) (fun _ _ _ h => h) (.inr ⟨by rfl, rfl⟩) ?_
        simp only [Act.put, List.setIfInBounds_toArray, List.set_cons_zero, List.set_cons_succ]
        refine wpAnyS_go (i := 8) (some 151) rfl rfl (by kernel_rfl) (by kernel_rfl) (by kernel_rfl) (fun _ _ _ h => h) (.inr ⟨by rfl, rfl⟩) ?_
        simp only [Act.put, List.setIfInBounds_toArray, List.set_cons_zero, List.set_cons_succ]
        refine wpAnyS_go (i := 9) (some 152) rfl rfl (by kernel_rfl) (by kernel_rfl) (by kernel_rfl) (fun _ _ _ h => h) (.inr ⟨by rfl, rfl⟩) ?_
        simp only [Act.put, List.setIfInBounds_toArray, List.set_cons_zero, List.set_cons_succ]
        refine wpAnyS_go (i := 10) (some 153) (v := ?_) rfl rfl (by kernel_rfl) (by kernel_rfl) (by kernel_rfl) (fun _ _ _ h => h) (.inl ⟨by rfl, fun w hS => ?_⟩) ?_
        rotate_left
        · (try go_simp)
          refine ⟨?_, hS⟩
          with_reducible rfl
        simp only [Act.put, List.setIfInBounds_toArray, List.set_cons_zero, List.set_cons_succ]
        refine wpAnyS_go (i := 11) (some 19) (v := ?_) rfl rfl (by kernel_rfl) (by kernel_rfl) (by kernel_rfl) (fun _ _ _ h => h) (.inl ⟨by rfl, fun w hS => ?_⟩) ?_
        rotate_left
        · (try go_simp)
          refine ⟨?_, hS⟩
          with_reducible rfl
        simp only [Act.put, List.setIfInBounds_toArray, List.set_cons_zero, List.set_cons_succ]
        refine wpAnyS_done (by kernel_rfl) fun w hS => ?_
        go_wp2
        go_meet
        case rel => exact ⟨rfl, hS⟩
      · refine wp_region_sure (fun w' => Ext wc w') (by kernel_rfl) (ext_drew _) ?_
        refine wpAnyS_go (i := 0) (some 143) (v := ?_) rfl rfl (by kernel_rfl) (by kernel_rfl) (by kernel_rfl) (fun _ _ _ h => h) (.inl ⟨by rfl, fun w hS => ?_⟩) ?_
        rotate_left
        · have e1 := rdB_opt (rdB.ext hS h17)
          go_simp
          refine ⟨?_, hS⟩
          with_reducible rfl
        simp only [Act.put, List.setIfInBounds_toArray, List.set_cons_zero, List.set_cons_succ]
        refine wpAnyS_go (i := 1) (some 144) (v := ?_) rfl rfl (by kernel_rfl) (by kernel_rfl) (by kernel_rfl) (fun _ _ _ h => h) (.inl ⟨by rfl, fun w hS => ?_⟩) ?_
        rotate_left
        · have e1 := rdB_opt (rdB.ext hS h4)
          go_simp
          refine ⟨?_, hS⟩
          with_reducible rfl
        simp only [Act.put, List.setIfInBounds_toArray, List.set_cons_zero, List.set_cons_succ]
        refine wpAnyS_go (i := 2) (some 145) (v := ?_) rfl rfl (by kernel_rfl) (by kernel_rfl) (by kernel_rfl) (fun _ _ _ h => h) (.inl ⟨by rfl, fun w hS => ?_⟩) ?_
        rotate_left
        · go_simp
          change Calls _ _ _ _ _
          refine Calls.mono (reduce_any _ _) ?_
          rintro e w' ⟨rfl, hx⟩
          refine ⟨?_, hS.trans hx⟩
          with_reducible rfl
        simp only [Act.put, List.setIfInBounds_toArray, List.set_cons_zero, List.set_cons_succ]
        refine wpAnyS_go (i := 3) (some 146) (v := ?_) rfl rfl (by kernel_rfl) (by kernel_rfl) (by kernel_rfl) (fun _ _ _ h => h) (.inl ⟨by rfl, fun w hS => ?_⟩) ?_
        rotate_left
        · (try go_simp)
          refine ⟨?_, hS⟩
          with_reducible rfl
        simp only [Act.put, List.setIfInBounds_toArray, List.set_cons_zero, List.set_cons_succ]
        refine wpAnyS_go (i := 4) (some 147) (v := ?_) rfl rfl (by kernel_rfl) (by kernel_rfl) (by kernel_rfl) (fun _ _ _ h => h) (.inl ⟨by rfl, fun w hS => ?_⟩) ?_
        rotate_left
        · (try go_simp)
          refine ⟨?_, hS⟩
          with_reducible rfl
        simp only [Act.put, List.setIfInBounds_toArray, List.set_cons_zero, List.set_cons_succ]
        refine wpAnyS_go (i := 5) (some 148) (v := ?_) rfl rfl (by kernel_rfl) (by kernel_rfl) (by kernel_rfl) (fun _ _ _ h => h) (.inl ⟨by rfl, fun w hS => ?_⟩) ?_
        rotate_left
        · have e1 := rdB_opt (rdB.ext hS h17)
          go_simp
          refine ⟨?_, hS⟩
          with_reducible rfl
        simp only [Act.put, List.setIfInBounds_toArray, List.set_cons_zero, List.set_cons_succ]
        refine wpAnyS_go (i := 6) (some 149) (v := ?_) rfl rfl (by kernel_rfl) (by kernel_rfl) (by kernel_rfl) (fun _ _ _ h => h) (.inl ⟨by rfl, fun w hS => ?_⟩) ?_
        rotate_left
        · have e1 := rdB_opt (rdB.ext hS h4)
          go_simp
          refine ⟨?_, hS⟩
          with_reducible rfl
        simp only [Act.put, List.setIfInBounds_toArray, List.set_cons_zero, List.set_cons_succ]
        refine wpAnyS_go (i := 7) (some 150) (v := ?_) rfl rfl (by kernel_rfl) (by kernel_rfl) (by kernel_rfl) (fun _ _ _ h => h) (.inl ⟨by rfl, fun w hS => ?_⟩) ?_
        rotate_left
        · go_simp
          change Calls _ _ _ _ _
          refine Calls.mono (fadd_any _ _ _) ?_
          rintro e w' ⟨rfl, hx⟩
          refine ⟨?_, hS.trans hx⟩
          with_reducible rfl
        simp only [Act.put, List.setIfInBounds_toArray, List.set_cons_zero, List.set_cons_succ]
        refine wpAnyS_go (i := 8) (some 151) (v := ?_) rfl rfl (by kernel_rfl) (by kernel_rfl) (by kernel_rfl) (fun _ _ _ h => h) (.inl ⟨by rfl, fun w hS => ?_⟩) ?_
        rotate_left
        · go_simp
          change Calls _ _ _ _ _
          refine Calls.mono (small_0 _) ?_
          rintro e w' ⟨rfl, hx⟩
          refine ⟨?_, hS.trans hx⟩
          with_reducible rfl
        simp only [Act.put, List.setIfInBounds_toArray, List.set_cons_zero, List.set_cons_succ]
        refine wpAnyS_go (i := 9) (some 152) (v := ?_) rfl rfl (by kernel_rfl) (by kernel_rfl) (by kernel_rfl) (fun _ _ _ h => h) (.inl ⟨by rfl, fun w hS => ?_⟩) ?_
        rotate_left
        · (try go_simp)
          refine ⟨?_, hS⟩
          with_reducible rfl
        simp only [Act.put, List.setIfInBounds_toArray, List.set_cons_zero, List.set_cons_succ]
        refine wpAnyS_go (i := 10) (some 153) (v := ?_) rfl rfl (by kernel_rfl) (by kernel_rfl) (by kernel_rfl) (fun _ _ _ h => h) (.inl ⟨by rfl, fun w hS => ?_⟩) ?_
        rotate_left
        · (try go_simp)
          refine ⟨?_, hS⟩
          with_reducible rfl
        simp only [Act.put, List.setIfInBounds_toArray, List.set_cons_zero, List.set_cons_succ]
        refine wpAnyS_go (i := 11) (some 19) (v := ?_) rfl rfl (by kernel_rfl) (by kernel_rfl) (by kernel_rfl) (fun _ _ _ h => h) (.inl ⟨by rfl, fun w hS => ?_⟩) ?_
        rotate_left
        · (try go_simp)
          refine ⟨?_, hS⟩
          with_reducible rfl
        simp only [Act.put, List.setIfInBounds_toArray, List.set_cons_zero, List.set_cons_succ]
        refine wpAnyS_done (by kernel_rfl) fun w hS => ?_
        go_wp2
        go_meet
        case rel => exact ⟨rfl, hS⟩
    case rest =>
    obtain ⟨rfl, hx⟩ := hcut
    replace h3 := rdB.ext hx h3
    replace h4 := rdB.ext hx h4
    replace h11 := rdB.ext hx h11
    replace h17 := rdB.ext hx h17
    replace HE := HE.trans hx
    clear hx eb
    go_upto_region 14 with fail
    have em1 := em.out
    have ev1 : (s 0 % 2 == 0) = true := by rw [ev.out]; rfl
    clear em ev HI HR1 HR2 HR3 hb
    cases k with
    | true =>
      refine wp_region_sure (fun w' => Ext wc w') (by kernel_rfl) (ext_drew _) ?_
      refine wpAnyS_go (i := 0) (some 154) (v := ?_) rfl rfl (by kernel_rfl) (by kernel_rfl) (by kernel_rfl) (fun _ _ _ h => h) (.inl ⟨by rfl, fun w hS => ?_⟩) ?_
      rotate_left
      · (try go_simp)
        refine ⟨?_, hS⟩
        with_reducible rfl
      simp only [Act.put, List.setIfInBounds_toArray, List.set_cons_zero, List.set_cons_succ]
      refine wpAnyS_go (i := 1) (some 155) (v := ?_) rfl rfl (by kernel_rfl) (by kernel_rfl) (by kernel_rfl) (fun _ _ _ h => h) (.inl ⟨by rfl, fun w hS => ?_⟩) ?_
      rotate_left
      · (try go_simp)
        refine ⟨?_, hS⟩
        with_reducible rfl
      simp only [Act.put, List.setIfInBounds_toArray, List.set_cons_zero, List.set_cons_succ]
      refine wpAnyS_go (i := 2) (some 156) (v := ?_) rfl rfl (by kernel_rfl) (by kernel_rfl) (by kernel_rfl) (fun _ _ _ h => h) (.inl ⟨by rfl, fun w hS => ?_⟩) ?_
      rotate_left
      · (try go_simp)
        refine ⟨?_, hS⟩
        with_reducible rfl
      simp only [Act.put, List.setIfInBounds_toArray, List.set_cons_zero, List.set_cons_succ]
      refine wpAnyS_go (i := 3) (some 157) (v := ?_) rfl rfl (by kernel_rfl) (by kernel_rfl) (by kernel_rfl) (fun _ _ _ h => h) (.inl ⟨by rfl, fun w hS => ?_⟩) ?_
      rotate_left
      · (try go_simp)
        refine ⟨?_, hS⟩
        with_reducible rfl
      simp only [Act.put, List.setIfInBounds_toArray, List.set_cons_zero, List.set_cons_succ]
      refine wpAnyS_go (i := 4) (some 158) (v := ?_) rfl rfl (by kernel_rfl) (by kernel_rfl) (by kernel_rfl) (fun _ _ _ h => h) (.inl ⟨by rfl, fun w hS => ?_⟩) ?_
      rotate_left
      · (try go_simp)
        refine ⟨?_, hS⟩
        with_reducible rfl
      simp only [Act.put, List.setIfInBounds_toArray, List.set_cons_zero, List.set_cons_succ]
      refine wpAnyS_go (i := 5) (some 159) (v := ?_) rfl rfl (by kernel_rfl) (by kernel_rfl) (by kernel_rfl) (fun _ _ _ h => h) (.inl ⟨by rfl, fun w hS => ?_⟩) ?_
      rotate_left
      · (try go_simp)
        refine ⟨?_, hS⟩
        with_reducible rfl
      simp only [Act.put, List.setIfInBounds_toArray, List.set_cons_zero, List.set_cons_succ]
      refine wpAnyS_go (i := 6) (some 160) (v := ?_) rfl rfl (by kernel_rfl) (by kernel_rfl) (by kernel_rfl) (fun _ _ _ h => h) (.inl ⟨by rfl, fun w hS => ?_⟩) ?_
      rotate_left
      · have e1 := rdB_opt (rdB.ext hS h3)
        go_simp
        refine ⟨?_, hS⟩
        with_reducible rfl
      simp only [Act.put, List.setIfInBounds_toArray, List.set_cons_zero, List.set_cons_succ]
      refine wpAnyS_go (i := 7) (some 161) (v := ?_) rfl rfl (by kernel_rfl) (by kernel_rfl) (by kernel_rfl) (fun _ _ _ h => h) (.inl ⟨by rfl, fun w hS => ?_⟩) ?_
      rotate_left
      · have e1 := rdB_opt (rdB.ext hS h11)
        go_simp
        refine ⟨?_, hS⟩
        with_reducible rfl
      simp only [Act.put, List.setIfInBounds_toArray, List.set_cons_zero, List.set_cons_succ]
      refine wpAnyS_go (i := 8) (some 162) (v := ?_) rfl rfl (by kernel_rfl) (by kernel_rfl) (by kernel_rfl) (fun _ _ _ h => h) (.inl ⟨by rfl, fun w hS => ?_⟩) ?_
      rotate_left
      · go_simp
        change Calls _ _ _ _ _
        refine Calls.mono (fmul_any _ _ _) ?_
        rintro e w' ⟨rfl, hx⟩
        refine ⟨?_, hS.trans hx⟩
        with_reducible rfl
      simp only [Act.put, List.setIfInBounds_toArray, List.set_cons_zero, List.set_cons_succ]
      refine wpAnyS_go (i := 9) (some 163) (v := ?_) rfl rfl (by kernel_rfl) (by kernel_rfl) (by kernel_rfl) (fun _ _ _ h => h) (.inl ⟨by rfl, fun w hS => ?_⟩) ?_
      rotate_left
      · go_simp
        change Calls _ _ _ _ _
        refine Calls.mono (small_1 _) ?_
        rintro e w' ⟨rfl, hx⟩
        refine ⟨?_, hS.trans hx⟩
        with_reducible rfl
      simp only [Act.put, List.setIfInBounds_toArray, List.set_cons_zero, List.set_cons_succ]
      refine wpAnyS_go (i := 10) (some 164) (v := ?_) rfl rfl (by kernel_rfl) (by kernel_rfl) (by kernel_rfl) (fun _ _ _ h => h) (.inl ⟨by rfl, fun w hS => ?_⟩) ?_
      rotate_left
      · (try go_simp)
        refine ⟨?_, hS⟩
        with_reducible rfl
      simp only [Act.put, List.setIfInBounds_toArray, List.set_cons_zero, List.set_cons_succ]
      refine wpAnyS_go (i := 11) (some 165) (v := ?_) rfl rfl (by kernel_rfl) (by kernel_rfl) (by kernel_rfl) (fun _ _ _ h => h) (.inl ⟨by rfl, fun w hS => ?_⟩) ?_
      rotate_left
      · (try go_simp)
        refine ⟨?_, hS⟩
        with_reducible rfl
      simp only [Act.put, List.setIfInBounds_toArray, List.set_cons_zero, List.set_cons_succ]
      refine wpAnyS_go (i := 12) (some 166) (v := ?_) rfl rfl (by kernel_rfl) (by kernel_rfl) (by kernel_rfl) (fun _ _ _ h => h) (.inl ⟨by rfl, fun w hS => ?_⟩) ?_
      rotate_left
      · (try go_simp)
        refine ⟨?_, hS⟩
        with_reducible rfl
      simp only [Act.put, List.setIfInBounds_toArray, List.set_cons_zero, List.set_cons_succ]
      refine wpAnyS_go (i := 13) (some 167) (v := ?_) rfl rfl (by kernel_rfl) (by kernel_rfl) (by kernel_rfl) (fun _ _ _ h => h) (.inl ⟨by rfl, fun w hS => ?_⟩) ?_
      rotate_left
      · (try go_simp)
        refine ⟨?_, hS⟩
        with_reducible rfl
      simp only [Act.put, List.setIfInBounds_toArray, List.set_cons_zero, List.set_cons_succ]
      refine wpAnyS_go (i := 14) (some 168) (v := ?_) rfl rfl (by kernel_rfl) (by kernel_rfl) (by kernel_rfl) (fun _ _ _ h => h) (.inl ⟨by rfl, fun w hS => ?_⟩) ?_
      rotate_left
      · (try go_simp)
        refine ⟨?_, hS⟩
        with_reducible rfl
      simp only [Act.put, List.setIfInBounds_toArray, List.set_cons_zero, List.set_cons_succ]
      refine wpAnyS_go (i := 15) (some 169) (v := ?_) rfl rfl (by kernel_rfl) (by kernel_rfl) (by kernel_rfl) (fun _ _ _ h => h) (.inl ⟨by rfl, fun w hS => ?_⟩) ?_
      rotate_left
      · (try go_simp)
        refine ⟨?_, hS⟩
        with_reducible rfl
      simp only [Act.put, List.setIfInBounds_toArray, List.set_cons_zero, List.set_cons_succ]
      refine wpAnyS_go (i := 16) (some 170) (v := ?_) rfl rfl (by kernel_rfl) (by kernel_rfl) (by kernel_rfl) (fun _ _ _ h => h) (.inl ⟨by rfl, fun w hS => ?_⟩) ?_
      rotate_left
      · (try go_simp)
        refine ⟨?_, hS⟩
        with_reducible rfl
      simp only [Act.put, List.setIfInBounds_toArray, List.set_cons_zero, List.set_cons_succ]
      refine wpAnyS_go (i := 17) (some 171) (v := ?_) rfl rfl (by kernel_rfl) (by kernel_rfl) (by kernel_rfl) (fun _ _ _ h => h) (.inl ⟨by rfl, fun w hS => ?_⟩) ?_
      rotate_left
      · (try go_simp)
        refine ⟨?_, hS⟩
        with_reducible rfl
      simp only [Act.put, List.setIfInBounds_toArray, List.set_cons_zero, List.set_cons_succ]
      refine wpAnyS_go (i := 18) (some 172) (v := ?_) rfl rfl (by kernel_rfl) (by kernel_rfl) (by kernel_rfl) (fun _ _ _ h => h) (.inl ⟨by rfl, fun w hS => ?_⟩) ?_
      rotate_left
      · (try go_simp)
        refine ⟨?_, hS⟩
        with_reducible rfl
      simp only [Act.put, List.setIfInBounds_toArray, List.set_cons_zero, List.set_cons_succ]
      refine wpAnyS_go (i := 19) (some 173) (v := ?_) rfl rfl (by kernel_rfl) (by kernel_rfl) (by kernel_rfl) (fun _ _ _ h => h) (.inl ⟨by rfl, fun w hS => ?_⟩) ?_
      rotate_left
      · (try go_simp)
        refine ⟨?_, hS⟩
        with_reducible rfl
      simp only [Act.put, List.setIfInBounds_toArray, List.set_cons_zero, List.set_cons_succ]
      refine wpAnyS_go (i := 20) (some 174) (v := ?_) rfl rfl (by kernel_rfl) (by kernel_rfl) (by kernel_rfl) (fun _ _ _ h => h) (.inl ⟨by rfl, fun w hS => ?_⟩) ?_
      rotate_left
      · (try go_simp)
        refine ⟨?_, hS⟩
        with_reducible rfl
      simp only [Act.put, List.setIfInBounds_toArray, List.set_cons_zero, List.set_cons_succ]
      refine wpAnyS_go (i := 21) (some 175) (v := ?_) rfl rfl (by kernel_rfl) (by kernel_rfl) (by kernel_rfl) (fun _ _ _ h => h) (.inl ⟨by rfl, fun w hS => ?_⟩) ?_
      rotate_left
      · (try go_simp)
        refine ⟨?_, hS⟩
        with_reducible rfl
      simp only [Act.put, List.setIfInBounds_toArray, List.set_cons_zero, List.set_cons_succ]
      refine wpAnyS_go (i := 22) (some 176) (v := ?_) rfl rfl (by kernel_rfl) (by kernel_rfl) (by kernel_rfl) (fun _ _ _ h => h) (.inl ⟨by rfl, fun w hS => ?_⟩) ?_
      rotate_left
      · (try go_simp)
        refine ⟨?_, hS⟩
        with_reducible rfl
      simp only [Act.put, List.setIfInBounds_toArray, List.set_cons_zero, List.set_cons_succ]
      refine wpAnyS_go (i := 23) (some 177) (v := ?_) rfl rfl (by kernel_rfl) (by kernel_rfl) (by kernel_rfl) (fun _ _ _ h => h) (.inl ⟨by rfl, fun w hS => ?_⟩) ?_
      rotate_left
      · (try go_simp)
        refine ⟨?_, hS⟩
        with_reducible rfl
      simp only [Act.put, List.setIfInBounds_toArray, List.set_cons_zero, List.set_cons_succ]
      refine wpAnyS_go (i := 24) (some 178) (v := ?_) rfl rfl (by kernel_rfl) (by kernel_rfl) (by kernel_rfl) (fun _ _ _ h => h) (.inl ⟨by rfl, fun w hS => ?_⟩) ?_
      rotate_left
      · (try go_simp)
        refine ⟨?_, hS⟩
        with_reducible rfl
      simp only [Act.put, List.setIfInBounds_toArray, List.set_cons_zero, List.set_cons_succ]
      refine wpAnyS_go (i := 25) (some 179) (v := ?_) rfl rfl (by kernel_rfl) (by kernel_rfl) (by kernel_rfl) (fun _ _ _ h => h) (.inl ⟨by rfl, fun w hS => ?_⟩) ?_
      rotate_left
      · (try go_simp)
        refine ⟨?_, hS⟩
        with_reducible rfl
      simp only [Act.put, List.setIfInBounds_toArray, List.set_cons_zero, List.set_cons_succ]
      refine wpAnyS_go (i := 26) (some 180) (v := ?_) rfl rfl (by kernel_rfl) (by kernel_rfl) (by kernel_rfl) (fun _ _ _ h => h) (.inl ⟨by rfl, fun w hS => ?_⟩) ?_
      rotate_left
      · (try go_simp)
        refine ⟨?_, hS⟩
        with_reducible rfl
      simp only [Act.put, List.setIfInBounds_toArray, List.set_cons_zero, List.set_cons_succ]
      refine wpAnyS_go (i := 27) (some 181) (v := ?_) rfl rfl (by kernel_rfl) (by kernel_rfl) (by kernel_rfl) (fun _ _ _ h => h) (.inl ⟨by rfl, fun w hS => ?_⟩) ?_
      rotate_left
      · (try go_simp)
        refine ⟨?_, hS⟩
        with_reducible rfl
      simp only [Act.put, List.setIfInBounds_toArray, List.set_cons_zero, List.set_cons_succ]
      refine wpAnyS_go (i := 28) (some 182) (v := ?_) rfl rfl (by kernel_rfl) (by kernel_rfl) (by kernel_rfl) (fun _ _ _ h => h) (.inl ⟨by rfl, fun w hS => ?_⟩) ?_
      rotate_left
      · have e1 := rdB_cell (rdB.ext hS h17) (show 0 < 32 by decide)
        go_simp
        refine ⟨?_, hS⟩
        with_reducible rfl
      simp only [Act.put, List.setIfInBounds_toArray, List.set_cons_zero, List.set_cons_succ]
      refine wpAnyS_go (i := 29) (some 183) (v := ?_) rfl rfl (by kernel_rfl) (by kernel_rfl) (by kernel_rfl) (fun _ _ _ h => h) (.inl ⟨by rfl, fun w hS => ?_⟩) ?_
      rotate_left
      · (try go_simp)
        refine ⟨?_, hS⟩
        with_reducible rfl
      simp only [Act.put, List.setIfInBounds_toArray, List.set_cons_zero, List.set_cons_succ]
      refine wpAnyS_go (i := 30) (some 184) (v := ?_) rfl rfl (by kernel_rfl) (by kernel_rfl) (by kernel_rfl) (fun _ _ _ h => h) (.inl ⟨by rfl, fun w hS => ?_⟩) ?_
      rotate_left
      · (try go_simp)
        refine ⟨?_, hS⟩
        with_reducible rfl
      simp only [Act.put, List.setIfInBounds_toArray, List.set_cons_zero, List.set_cons_succ]
      refine wpAnyS_go (i := 31) (some 185) (v := ?_) rfl rfl (by kernel_rfl) (by kernel_rfl) (by kernel_rfl) (fun _ _ _ h => h) (.inl ⟨by rfl, fun w hS => ?_⟩) ?_
      rotate_left
      · (try go_simp)
        refine ⟨?_, hS⟩
        with_reducible rfl
      simp only [Act.put, List.setIfInBounds_toArray, List.set_cons_zero, List.set_cons_succ]
      refine wpAnyS_go (i := 32) (some 6) (v := ?_) rfl rfl (by kernel_rfl) (by kernel_rfl) (by kernel_rfl) (fun _ _ _ h => h) (.inl ⟨by rfl, fun w hS => ?_⟩) ?_
      rotate_left
      · (try go_simp)
        refine ⟨?_, hS⟩
        with_reducible rfl
      simp only [Act.put, List.setIfInBounds_toArray, List.set_cons_zero, List.set_cons_succ]
      refine wpAnyS_done (by kernel_rfl) fun w hS => ?_
      go_wp2
      go_ret
      exact ⟨rfl, HE.trans hS⟩
    | false =>
      refine wp_region_sure (fun w' => Ext wc w') (by kernel_rfl) (ext_drew _) ?_
      refine wpAnyS_go (i := 0) (some 154) (v := ?_) rfl rfl (by kernel_rfl) (by kernel_rfl) (by kernel_rfl) (fun _ _ _ h => h) (.inl ⟨by rfl, fun w hS => ?_⟩) ?_
      rotate_left
      · (try go_simp)
        refine ⟨?_, hS⟩
        with_reducible rfl
      simp only [Act.put, List.setIfInBounds_toArray, List.set_cons_zero, List.set_cons_succ]
      refine wpAnyS_go (i := 1) (some 155) (v := ?_) rfl rfl (by kernel_rfl) (by kernel_rfl) (by kernel_rfl) (fun _ _ _ h => h) (.inl ⟨by rfl, fun w hS => ?_⟩) ?_
      rotate_left
      · (try go_simp)
        refine ⟨?_, hS⟩
        with_reducible rfl
      simp only [Act.put, List.setIfInBounds_toArray, List.set_cons_zero, List.set_cons_succ]
      refine wpAnyS_go (i := 2) (some 156) (v := ?_) rfl rfl (by kernel_rfl) (by kernel_rfl) (by kernel_rfl) (fun _ _ _ h => h) (.inl ⟨by rfl, fun w hS => ?_⟩) ?_
      rotate_left
      · (try go_simp)
        refine ⟨?_, hS⟩
        with_reducible rfl
      simp only [Act.put, List.setIfInBounds_toArray, List.set_cons_zero, List.set_cons_succ]
      refine wpAnyS_go (i := 3) (some 157) (v := ?_) rfl rfl (by kernel_rfl) (by kernel_rfl) (by kernel_rfl) (fun _ _ _ h => h) (.inl ⟨by rfl, fun w hS => ?_⟩) ?_
      rotate_left
      · (try go_simp)
        refine ⟨?_, hS⟩
        with_reducible rfl
      simp only [Act.put, List.setIfInBounds_toArray, List.set_cons_zero, List.set_cons_succ]
      refine wpAnyS_go (i := 4) (some 158) (v := ?_) rfl rfl (by kernel_rfl) (by kernel_rfl) (by kernel_rfl) (fun _ _ _ h => h) (.inl ⟨by rfl, fun w hS => ?_⟩) ?_
      rotate_left
      · (try go_simp)
        refine ⟨?_, hS⟩
        with_reducible rfl
      simp only [Act.put, List.setIfInBounds_toArray, List.set_cons_zero, List.set_cons_succ]
      refine wpAnyS_go (i := 5) (some 159) (v := ?_) rfl rfl (by kernel_rfl) (by kernel_rfl) (by kernel_rfl) (fun _ _ _ h => h) (.inl ⟨by rfl, fun w hS => ?_⟩) ?_
      rotate_left
      · (try go_simp)
        refine ⟨?_, hS⟩
        with_reducible rfl
      simp only [Act.put, List.setIfInBounds_toArray, List.set_cons_zero, List.set_cons_succ]
      refine wpAnyS_go (i := 6) (some 160) (v := ?_) rfl rfl (by kernel_rfl) (by kernel_rfl) (by kernel_rfl) (fun _ _ _ h => h) (.inl ⟨by rfl, fun w hS => ?_⟩) ?_
      rotate_left
      · have e1 := rdB_opt (rdB.ext hS h3)
        go_simp
        refine ⟨?_, hS⟩
        with_reducible rfl
      simp only [Act.put, List.setIfInBounds_toArray, List.set_cons_zero, List.set_cons_succ]
      refine wpAnyS_go (i := 7) (some 161) (v := ?_) rfl rfl (by kernel_rfl) (by kernel_rfl) (by kernel_rfl) (fun _ _ _ h => h) (.inl ⟨by rfl, fun w hS => ?_⟩) ?_
      rotate_left
      · have e1 := rdB_opt (rdB.ext hS h11)
        go_simp
        refine ⟨?_, hS⟩
        with_reducible rfl
      simp only [Act.put, List.setIfInBounds_toArray, List.set_cons_zero, List.set_cons_succ]
      refine wpAnyS_go (i := 8) (some 162) (v := ?_) rfl rfl (by kernel_rfl) (by kernel_rfl) (by kernel_rfl) (fun _ _ _ h => h) (.inl ⟨by rfl, fun w hS => ?_⟩) ?_
      rotate_left
      · go_simp
        change Calls _ _ _ _ _
        refine Calls.mono (fmul_any _ _ _) ?_
        rintro e w' ⟨rfl, hx⟩
        refine ⟨?_, hS.trans hx⟩
        with_reducible rfl
      simp only [Act.put, List.setIfInBounds_toArray, List.set_cons_zero, List.set_cons_succ]
      refine wpAnyS_go (i := 9) (some 163) (v := ?_) rfl rfl (by kernel_rfl) (by kernel_rfl) (by kernel_rfl) (fun _ _ _ h => h) (.inl ⟨by rfl, fun w hS => ?_⟩) ?_
      rotate_left
      · go_simp
        change Calls _ _ _ _ _
        refine Calls.mono (small_1 _) ?_
        rintro e w' ⟨rfl, hx⟩
        refine ⟨?_, hS.trans hx⟩
        with_reducible rfl
      simp only [Act.put, List.setIfInBounds_toArray, List.set_cons_zero, List.set_cons_succ]
      refine wpAnyS_go (i := 10) (some 164) (v := ?_) rfl rfl (by kernel_rfl) (by kernel_rfl) (by kernel_rfl) (fun _ _ _ h => h) (.inl ⟨by rfl, fun w hS => ?_⟩) ?_
      rotate_left
      · (try go_simp)
        refine ⟨?_, hS⟩
        with_reducible rfl
      simp only [Act.put, List.setIfInBounds_toArray, List.set_cons_zero, List.set_cons_succ]
      refine wpAnyS_go (i := 11) (some 165) (v := ?_) rfl rfl (by kernel_rfl) (by kernel_rfl) (by kernel_rfl) (fun _ _ _ h => h) (.inl ⟨by rfl, fun w hS => ?_⟩) ?_
      rotate_left
      · (try go_simp)
        refine ⟨?_, hS⟩
        with_reducible rfl
      simp only [Act.put, List.setIfInBounds_toArray, List.set_cons_zero, List.set_cons_succ]
      refine wpAnyS_go (i := 12) (some 166) (v := ?_) rfl rfl (by kernel_rfl) (by kernel_rfl) (by kernel_rfl) (fun _ _ _ h => h) (.inl ⟨by rfl, fun w hS => ?_⟩) ?_
      rotate_left
      · (try go_simp)
        refine ⟨?_, hS⟩
        with_reducible rfl
      simp only [Act.put, List.setIfInBounds_toArray, List.set_cons_zero, List.set_cons_succ]
      refine wpAnyS_go (i := 13) (some 167) (v := ?_) rfl rfl (by kernel_rfl) (by kernel_rfl) (by kernel_rfl) (fun _ _ _ h => h) (.inl ⟨by rfl, fun w hS => ?_⟩) ?_
      rotate_left
      · (try go_simp)
        refine ⟨?_, hS⟩
        with_reducible rfl
      simp only [Act.put, List.setIfInBounds_toArray, List.set_cons_zero, List.set_cons_succ]
      refine wpAnyS_go (i := 14) (some 168) (v := ?_) rfl rfl (by kernel_rfl) (by kernel_rfl) (by kernel_rfl) (fun _ _ _ h => h) (.inl ⟨by rfl, fun w hS => ?_⟩) ?_
      rotate_left
      · (try go_simp)
        refine ⟨?_, hS⟩
        with_reducible rfl
      simp only [Act.put, List.setIfInBounds_toArray, List.set_cons_zero, List.set_cons_succ]
      refine wpAnyS_go (i := 15) (some 169) (v := ?_) rfl rfl (by kernel_rfl) (by kernel_rfl) (by kernel_rfl) (fun _ _ _ h => h) (.inl ⟨by rfl, fun w hS => ?_⟩) ?_
      rotate_left
      · (try go_simp)
        refine ⟨?_, hS⟩
        with_reducible rfl
      simp only [Act.put, List.setIfInBounds_toArray, List.set_cons_zero, List.set_cons_succ]
      refine wpAnyS_go (i := 16) (some 170) (v := ?_) rfl rfl (by kernel_rfl) (by kernel_rfl) (by kernel_rfl) (fun _ _ _ h => h) (.inl ⟨by rfl, fun w hS => ?_⟩) ?_
      rotate_left
      · (try go_simp)
        refine ⟨?_, hS⟩
        with_reducible rfl
      simp only [Act.put, List.setIfInBounds_toArray, List.set_cons_zero, List.set_cons_succ]
      refine wpAnyS_go (i := 17) (some 171) (v := ?_) rfl rfl (by kernel_rfl) (by kernel_rfl) (by kernel_rfl) (fun _ _ _ h => h) (.inl ⟨by rfl, fun w hS => ?_⟩) ?_
      rotate_left
      · (try go_simp)
        refine ⟨?_, hS⟩
        with_reducible rfl
      simp only [Act.put, List.setIfInBounds_toArray, List.set_cons_zero, List.set_cons_succ]
      refine wpAnyS_go (i := 18) (some 172) (v := ?_) rfl rfl (by kernel_rfl) (by kernel_rfl) (by kernel_rfl) (fun _ _ _ h => h) (.inl ⟨by rfl, fun w hS => ?_⟩) ?_
      rotate_left
      · (try go_simp)
        refine ⟨?_, hS⟩
        with_reducible rfl
      simp only [Act.put, List.setIfInBounds_toArray, List.set_cons_zero, List.set_cons_succ]
      refine wpAnyS_go (i := 19) (some 173) (v := ?_) rfl rfl (by kernel_rfl) (by kernel_rfl) (by kernel_rfl) (fun _ _ _ h => h) (.inl ⟨by rfl, fun w hS => ?_⟩) ?_
      rotate_left
      · (try go_simp)
        refine ⟨?_, hS⟩
        with_reducible rfl
      simp only [Act.put, List.setIfInBounds_toArray, List.set_cons_zero, List.set_cons_succ]
      refine wpAnyS_go (i := 20) (some 174) (v := ?_) rfl rfl (by kernel_rfl) (by kernel_rfl) (by kernel_rfl) (fun _ _ _ h => h) (.inl ⟨by rfl, fun w hS => ?_⟩) ?_
      rotate_left
      · (try go_simp)
        refine ⟨?_, hS⟩
        with_reducible rfl
      simp only [Act.put, List.setIfInBounds_toArray, List.set_cons_zero, List.set_cons_succ]
      refine wpAnyS_go (i := 21) (some 175) (v := ?_) rfl rfl (by kernel_rfl) (by kernel_rfl) (by kernel_rfl) (fun _ _ _ h => h) (.inl ⟨by rfl, fun w hS => ?_⟩) ?_
      rotate_left
      · (try go_simp)
        refine ⟨?_, hS⟩
        with_reducible rfl
      simp only [Act.put, List.setIfInBounds_toArray, List.set_cons_zero, List.set_cons_succ]
      refine wpAnyS_go (i := 22) (some 176) (v := ?_) rfl rfl (by kernel_rfl) (by kernel_rfl) (by kernel_rfl) (fun _ _ _ h => h) (.inl ⟨by rfl, fun w hS => ?_⟩) ?_
      rotate_left
      · (try go_simp)
        refine ⟨?_, hS⟩
        with_reducible rfl
      simp only [Act.put, List.setIfInBounds_toArray, List.set_cons_zero, List.set_cons_succ]
      refine wpAnyS_go (i := 23) (some 177) (v := ?_) rfl rfl (by kernel_rfl) (by kernel_rfl) (by kernel_rfl) (fun _ _ _ h => h) (.inl ⟨by rfl, fun w hS => ?_⟩) ?_
      rotate_left
      · (try go_simp)
        refine ⟨?_, hS⟩
        with_reducible rfl
      simp only [Act.put, List.setIfInBounds_toArray, List.set_cons_zero, List.set_cons_succ]
      refine wpAnyS_go (i := 24) (some 178) (v := ?_) rfl rfl (by kernel_rfl) (by kernel_rfl) (by kernel_rfl) (fun _ _ _ h => h) (.inl ⟨by rfl, fun w hS => ?_⟩) ?_
      rotate_left
      · (try go_simp)
        refine ⟨?_, hS⟩
        with_reducible rfl
      simp only [Act.put, List.setIfInBounds_toArray, List.set_cons_zero, List.set_cons_succ]
      refine wpAnyS_go (i := 25) (some 179) (v := ?_) rfl rfl (by kernel_rfl) (by kernel_rfl) (by kernel_rfl) (fun _ _ _ h => h) (.inl ⟨by rfl, fun w hS => ?_⟩) ?_
      rotate_left
      · (try go_simp)
        refine ⟨?_, hS⟩
        with_reducible rfl
      simp only [Act.put, List.setIfInBounds_toArray, List.set_cons_zero, List.set_cons_succ]
      refine wpAnyS_go (i := 26) (some 180) (v := ?_) rfl rfl (by kernel_rfl) (by kernel_rfl) (by kernel_rfl) (fun _ _ _ h => h) (.inl ⟨by rfl, fun w hS => ?_⟩) ?_
      rotate_left
      · (try go_simp)
        refine ⟨?_, hS⟩
        with_reducible rfl
      simp only [Act.put, List.setIfInBounds_toArray, List.set_cons_zero, List.set_cons_succ]
      refine wpAnyS_go (i := 27) (some 181) (v := ?_) rfl rfl (by kernel_rfl) (by kernel_rfl) (by kernel_rfl) (fun _ _ _ h => h) (.inl ⟨by rfl, fun w hS => ?_⟩) ?_
      rotate_left
      · (try go_simp)
        refine ⟨?_, hS⟩
        with_reducible rfl
      simp only [Act.put, List.setIfInBounds_toArray, List.set_cons_zero, List.set_cons_succ]
      refine wpAnyS_go (i := 28) (some 182) (v := ?_) rfl rfl (by kernel_rfl) (by kernel_rfl) (by kernel_rfl) (fun _ _ _ h => h) (.inl ⟨by rfl, fun w hS => ?_⟩) ?_
      rotate_left
      · have e1 := rdB_cell (rdB.ext hS h17) (show 0 < 32 by decide)
        go_simp
        refine ⟨?_, hS⟩
        with_reducible rfl
      simp only [Act.put, List.setIfInBounds_toArray, List.set_cons_zero, List.set_cons_succ]
      refine wpAnyS_go (i := 29) (some 183) (v := ?_) rfl rfl (by kernel_rfl) (by kernel_rfl) (by kernel_rfl) (fun _ _ _ h => h) (.inl ⟨by rfl, fun w hS => ?_⟩) ?_
      rotate_left
      · (try go_simp)
        refine ⟨?_, hS⟩
        with_reducible rfl
      simp only [Act.put, List.setIfInBounds_toArray, List.set_cons_zero, List.set_cons_succ]
      refine wpAnyS_go (i := 30) (some 184) (v := ?_) rfl rfl (by kernel_rfl) (by kernel_rfl) (by kernel_rfl) (fun _ _ _ h => h) (.inl ⟨by rfl, fun w hS => ?_⟩) ?_
      rotate_left
      · (try go_simp)
        refine ⟨?_, hS⟩
        with_reducible rfl
      simp only [Act.put, List.setIfInBounds_toArray, List.set_cons_zero, List.set_cons_succ]
      refine wpAnyS_go (i := 31) (some 185) (v := ?_) rfl rfl (by kernel_rfl) (by kernel_rfl) (by kernel_rfl) (fun _ _ _ h => h) (.inl ⟨by rfl, fun w hS => ?_⟩) ?_
      rotate_left
      · (try go_simp)
        refine ⟨?_, hS⟩
        with_reducible rfl
      simp only [Act.put, List.setIfInBounds_toArray, List.set_cons_zero, List.set_cons_succ]
      refine wpAnyS_go (i := 32) (some 6) (v := ?_) rfl rfl (by kernel_rfl) (by kernel_rfl) (by kernel_rfl) (fun _ _ _ h => h) (.inl ⟨by rfl, fun w hS => ?_⟩) ?_
      rotate_left
      · (try go_simp)
        refine ⟨?_, hS⟩
        with_reducible rfl
      simp only [Act.put, List.setIfInBounds_toArray, List.set_cons_zero, List.set_cons_succ]
      refine wpAnyS_done (by kernel_rfl) fun w hS => ?_
      go_wp2
      go_ret
      exact ⟨rfl, HE.trans hS⟩
end Go.Proofs.Ytndohjgfjbopnaa
