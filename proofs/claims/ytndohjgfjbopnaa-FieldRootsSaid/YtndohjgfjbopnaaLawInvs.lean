/-
  The walks of the statements FieldInvs and FieldRoots.
-/
import Derived.Test.YtndohjgfjbopnaaLawSums
import Derived.Deep.RegionLaw
set_option linter.unusedSimpArgs false
set_option linter.unusedVariables false
namespace Go.Proofs.Ytndohjgfjbopnaa
open Go.RowKit Go.Cv Go.Cv.Dig
theorem Num.zero {w : World} {v : Value} {N : Nat} (h : Num w v 0 N) : ∃ A c, v = .slice A 0 c := by
  obtain ⟨A, n, c, l, rfl, hn, hc, hr, hcan, hx, hl⟩ := h
  have := hcan.zero hx
  subst this
  exact ⟨A, c, by rw [← hn]; rfl⟩
theorem Num.some {w : World} {v : Value} {x N : Nat} (h : Num w v x N) (hx : x ≠ 0) : ∃ A n c, v = .slice A n c ∧ n ≠ 0 := by
  obtain ⟨A, n, c, l, rfl, hn, hc, hr, hcan, hv, hl⟩ := h
  refine ⟨A, n, c, rfl, fun h0 => hx ?_⟩
  rw [h0] at hn
  rw [← hv, List.eq_nil_of_length_eq_zero hn]; rfl

set_option maxRecDepth 8000 in
set_option maxHeartbeats 40000000 in
theorem invs_walk (f : Nat → UInt8) (w0 : World) (x : Nat)
    (hX : ∀ w, Calls Try.prog 15 #[.agg (bcells f)] w fun e w' => ∃ v, e = .returned v ∧ Num w' v x 11 ∧ Ext w w')
    (g : Nat → UInt8) (er : Value) (y : Nat)
    (hI : ∀ w, Calls Try.prog 14 #[.agg (bcells f)] w fun e w' => e = .returned (.tuple #[.agg (bcells g), er]) ∧ Ext w w')
    (hz : x = 0 → er = (.iface 30 (.int .i64 28)) ∧ beqb g (nb 0) = true) (hn : x ≠ 0 → er = .nilIface ∧ beqb g (nb y) = true)
    (hJ : ∀ w v, Num w v x 11 → Calls Try.prog 18 #[v] w fun e w' => ∃ v, e = .returned v ∧ Num w' v y 11 ∧ Ext w w') :
    Calls Try.prog 3 #[.agg (bcells f)] w0 fun e w' => e = .returned (.bool true) ∧ Ext w0 w' := by
  go_enter Try.func3, Try.ntmps3
  go_upto_region 1 with fail
  obtain ⟨wc, hW⟩ : ∃ W, W = (w0.alloc (.cells (bcells f) 22)) := ⟨_, rfl⟩
  rw [← hW]
  have h3 : rdB wc w0.heap.size f := by rw [hW]; exact rdB.new _ _ _
  have HE : Ext w0 wc := by rw [hW]; exact ext_alloc _ _
  clear hW
  go_cut [3] from 7 to 7 (fun p wx => p = .bool true ∧ Ext wc wx)
  case first =>
    go_wp2_with (go_at_call 13; with_reducible refine (shown_any _).mono ?_; rintro e w' ⟨rfl, hx⟩)
    go_meet
    case rel => exact ⟨rfl, hx⟩
  case rest =>
  obtain ⟨rfl, hx⟩ := hcut
  replace h3 := rdB.ext hx h3
  replace HE := HE.trans hx
  clear hx
  go_upto_region 2 with fail
  go_cut [4, 5] from 8 to 12 (fun p q wx => ∃ n, p = .pointer (some ⟨n, 0, none⟩) ∧ q = er ∧ rdB wx n g ∧ Ext wc wx)
  case first =>
    have o3 := rdB_opt h3
    go_wp2_with (go_at_call 14; with_reducible refine (hI _).mono ?_; rintro e w' ⟨rfl, hx⟩; obtain ⟨l', rfl⟩ := grw_of_ext hx; clear hx)
    go_meet
    case rel => exact ⟨_, rfl, rfl, rdB.new_ _ _ _ rfl, (grw_ext _ _).trans (ext_alloc _ _)⟩
  case rest =>
  obtain ⟨n4, rfl, rfl, h4, hx⟩ := hcut
  replace h3 := rdB.ext hx h3
  replace HE := HE.trans hx
  clear hx
  go_upto_region 3 with fail
  go_cut [6] from 13 to 14 (fun p wx => Num wx p x 11 ∧ Ext wc wx)
  case first =>
    have o3 := rdB_opt h3
    go_wp2_with (go_at_call 15; with_reducible refine (hX _).mono ?_; rintro e w' ⟨v, rfl, hv, hx⟩)
    go_meet
    case rel => exact ⟨hv, hx⟩
  case rest =>
  obtain ⟨hvx, hx⟩ := hcut
  replace h4 := rdB.ext hx h4
  replace HE := HE.trans hx
  clear hx h3
  by_cases h0 : x = 0
  · obtain ⟨rfl, hg⟩ := hz h0
    rw [h0] at hvx
    obtain ⟨A, c, rfl⟩ := hvx.zero
    clear hz hn hvx
    go_wp2
    have o3 := rdB_opt h4
    go_region_law (go_simp; go_at_call 16; (with_reducible refine (small_0 _).mono ?_); rintro e w1 ⟨rfl, hx1⟩; have o5 := rdB_opt (rdB.ext ((ext_drew _).trans hx1) h4))
    all_goals
      go_wp2
      go_ret
      exact ⟨rfl, HE.trans ((ext_drew _).trans hx1)⟩
  · obtain ⟨rfl, hg⟩ := hn h0
    have hvx' := hvx
    obtain ⟨A, n, c, rfl, hn0⟩ := hvx.some h0
    replace hvx' := Lib.hid hvx'
    clear hz hn hvx
    go_wp2
    have o3 := rdB_opt h4
    go_region_law (first
      | (go_simp; go_at_call 18; (with_reducible refine (hJ _ _ (hvx'.out.ext (ext_drew _))).mono ?_); rintro e w1 ⟨v1, rfl, hv1, hx1⟩; have o5 := rdB_opt (rdB.ext ((ext_drew _).trans hx1) h4))
      | (go_simp; go_at_call 17; (with_reducible refine (bytes_num _ _ _ hv1).mono ?_); rintro e w2 ⟨rfl, hx2⟩; have o6 := rdB_opt (rdB.ext (((ext_drew _).trans hx1).trans hx2) h4)))
    all_goals
      go_wp2
      go_ret
      exact ⟨rfl, HE.trans (((ext_drew _).trans hx1).trans hx2)⟩

set_option maxRecDepth 8000 in
set_option maxHeartbeats 40000000 in
theorem roots_walk (f : Nat → UInt8) (w0 : World) (x : Nat)
    (hX : ∀ w, Calls Try.prog 15 #[.agg (bcells f)] w fun e w' => ∃ v, e = .returned v ∧ Num w' v x 11 ∧ Ext w w')
    (g : Nat → UInt8) (er : Value) (y : Nat) (k : Bool)
    (hI : ∀ w, Calls Try.prog 19 #[.agg (bcells f)] w fun e w' => e = .returned (.tuple #[.agg (bcells g), er]) ∧ Ext w w')
    (hz : k = false → er = (.iface 30 (.int .i64 9)) ∧ beqb g (nb 0) = true) (hn : k = true → er = .nilIface ∧ beqb g (nb y) = true)
    (hJ : ∀ w v, Num w v x 11 → Calls Try.prog 20 #[v] w fun e w' => ∃ v, e = .returned (.tuple #[v, .bool k]) ∧ (k = true → Num w' v y 11) ∧ Ext w w') :
    Calls Try.prog 4 #[.agg (bcells f)] w0 fun e w' => e = .returned (.bool true) ∧ Ext w0 w' := by
  go_enter Try.func4, Try.ntmps4
  go_upto_region 1 with fail
  obtain ⟨wc, hW⟩ : ∃ W, W = (w0.alloc (.cells (bcells f) 22)) := ⟨_, rfl⟩
  rw [← hW]
  have h3 : rdB wc w0.heap.size f := by rw [hW]; exact rdB.new _ _ _
  have HE : Ext w0 wc := by rw [hW]; exact ext_alloc _ _
  clear hW
  go_cut [3] from 8 to 8 (fun p wx => p = .bool true ∧ Ext wc wx)
  case first =>
    go_wp2_with (go_at_call 13; with_reducible refine (shown_any _).mono ?_; rintro e w' ⟨rfl, hx⟩)
    go_meet
    case rel => exact ⟨rfl, hx⟩
  case rest =>
  obtain ⟨rfl, hx⟩ := hcut
  replace h3 := rdB.ext hx h3
  replace HE := HE.trans hx
  clear hx
  go_upto_region 2 with fail
  go_cut [4, 5] from 9 to 13 (fun p q wx => ∃ n, p = .pointer (some ⟨n, 0, none⟩) ∧ q = er ∧ rdB wx n g ∧ Ext wc wx)
  case first =>
    have o3 := rdB_opt h3
    go_wp2_with (go_at_call 19; with_reducible refine (hI _).mono ?_; rintro e w' ⟨rfl, hx⟩; obtain ⟨l', rfl⟩ := grw_of_ext hx; clear hx)
    go_meet
    case rel => exact ⟨_, rfl, rfl, rdB.new_ _ _ _ rfl, (grw_ext _ _).trans (ext_alloc _ _)⟩
  case rest =>
  obtain ⟨n4, rfl, rfl, h4, hx⟩ := hcut
  replace h3 := rdB.ext hx h3
  replace HE := HE.trans hx
  clear hx
  go_upto_region 3 with fail
  go_cut [6, 7] from 14 to 19 (fun p q wx => (k = true → Num wx p y 11) ∧ q = .bool k ∧ Ext wc wx)
  case first =>
    have o3 := rdB_opt h3
    go_wp2_with (first
      | (go_at_call 15; with_reducible refine (hX _).mono ?_; rintro e w1 ⟨v1, rfl, hv1, hx1⟩)
      | (go_at_call 20; with_reducible refine (hJ _ _ hv1).mono ?_; rintro e w2 ⟨v2, rfl, hv2, hx2⟩))
    go_meet
    case rel => exact ⟨hv2, rfl, hx1.trans hx2⟩
  case rest =>
  obtain ⟨hvy, rfl, hx⟩ := hcut
  replace h4 := rdB.ext hx h4
  replace HE := HE.trans hx
  clear hx h3 hX hJ
  cases k with
  | false =>
    obtain ⟨rfl, hg⟩ := hz rfl
    clear hz hn hvy
    go_wp2
    have o3 := rdB_opt h4
    go_region_law (go_simp; go_at_call 16; (with_reducible refine (small_0 _).mono ?_); rintro e w1 ⟨rfl, hx1⟩; have o5 := rdB_opt (rdB.ext ((ext_drew _).trans hx1) h4))
    all_goals
      go_wp2
      go_ret
      exact ⟨rfl, HE.trans ((ext_drew _).trans hx1)⟩
  | true =>
    obtain ⟨rfl, hg⟩ := hn rfl
    replace hvy := Lib.hid (hvy rfl)
    clear hz hn
    go_wp2
    have o3 := rdB_opt h4
    go_region_law (go_simp; go_at_call 17; (with_reducible refine (bytes_num _ _ _ (hvy.out.ext (ext_drew _))).mono ?_); rintro e w1 ⟨rfl, hx1⟩; have o5 := rdB_opt (rdB.ext ((ext_drew _).trans hx1) h4))
    all_goals
      go_wp2
      go_ret
      exact ⟨rfl, HE.trans ((ext_drew _).trans hx1)⟩
end Go.Proofs.Ytndohjgfjbopnaa
