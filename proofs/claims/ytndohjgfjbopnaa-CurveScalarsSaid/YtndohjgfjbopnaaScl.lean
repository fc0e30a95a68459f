/-
  The walk of the statement CurveScalars.
-/
import Derived.Test.YtndohjgfjbopnaaRefR
import Derived.Test.YtndohjgfjbopnaaErr
set_option linter.unusedSimpArgs false
set_option linter.unusedVariables false
namespace Go.Cv
open Go.RowKit Go.Cv.Dig
theorem nb_V (f : Nat → UInt8) : ∀ i, i < 32 → nb (V f) i = f i := by
  intro i hi
  obtain ⟨k, hk⟩ : ∃ k, 32 = i + (1 + k) := ⟨31 - i, by omega⟩
  have h1 : V f = bsum f i + 2 ^ (8 * i) * bsum (fun j => f (i + j)) (1 + k) := by
    unfold V
    rw [hk, bsum_add]
  have h2 := bsum_lt f i
  have h3 : V f / 2 ^ (8 * i) = bsum (fun j => f (i + j)) (1 + k) := by
    rw [h1, Nat.add_mul_div_left _ _ (Nat.two_pow_pos _), Nat.div_eq_of_lt h2, Nat.zero_add]
  unfold nb
  rw [h3, bsum_add]
  simp only [bsum]
  apply UInt8.toNat_inj.1
  have h4 := (f i).toNat_lt
  rw [UInt8.toNat_ofNat']
  simp only [Nat.add_zero, Nat.mul_zero, Nat.pow_zero, Nat.one_mul, Nat.zero_add, Nat.mul_one]
  omega
theorem rd_of_rdB {w : World} {b : Nat} {f : Nat → UInt8} (h : rdB w b f) : Rd w (some ⟨b, 0, none⟩) ((blist f).map bv) := by
  intro k v hv
  have hk : k < 32 := by
    have := (List.getElem?_eq_some_iff.1 hv).1
    simpa [blist] using this
  refine ⟨_, rfl, ?_⟩
  rw [show (Addr.add ⟨b, 0, none⟩ k) = ⟨b, k, none⟩ from by unfold Addr.add; split <;> simp_all]
  rw [rdB_cell h hk, ← hv]
  simp [blist, hk]
theorem low_dec (f : Nat → UInt8) : beqb (nb (V f % ordN)) f = decide (V f < ordN) := by
  have hL : (ordN : Nat) < 2 ^ 256 := by decide
  have hp : 0 < ordN := by decide
  have hv : V f < 2 ^ 256 := bsum_lt f 32
  have hf : V (nb (V f % ordN)) = V f % ordN := V_nb (Nat.lt_trans (Nat.mod_lt _ hp) hL)
  generalize ordN = L at *
  by_cases h : V f < L
  · rw [decide_eq_true h, Nat.mod_eq_of_lt h, beqb_iff]
    exact nb_V f
  · rw [decide_eq_false h, Bool.eq_false_iff]
    intro h2
    rw [beqb_iff] at h2
    have h3 : V (nb (V f % L)) = V f := bsum_congr 32 h2
    rw [hf] at h3
    have := Nat.mod_lt (V f) hp
    omega
end Go.Cv
namespace Go.Proofs.Ytndohjgfjbopnaa
open Go.RowKit Go.Cv Go.Cv.Dig
theorem of_numB (b : Nat) (f : Nat → UInt8) (w : World) (hR : rdB w b f) :
    Calls Try.prog 37 #[.slice (some ⟨b, 0, none⟩) 32 32] w fun e w' => ∃ v, e = .returned v ∧ Num w' v (V f) 11 ∧ Ext w w' := by
  refine (of_any _ 32 32 (blist f) w (blist_len f) (rd_of_rdB hR) (by decide)).mono ?_
  rintro e w' ⟨v, rfl, hv, hx⟩
  rw [show bsum (lb (blist f)) 32 = V f from bsum_blist f] at hv
  exact ⟨v, rfl, hv.short (Nat.lt_of_lt_of_le (bsum_lt f 32) (by decide)), hx⟩
theorem of_num64 (A : Option Addr) (n c : Nat) (l : List UInt8) (w : World) (hl : l.length = n) (hr : Rd w A (l.map bv)) (bnd : n ≤ 64) :
    Calls Try.prog 37 #[.slice A n c] w fun e w' => ∃ v, e = .returned v ∧ Num w' v (bsum (fun j => l.getD j 0) n) 1000 ∧ Ext w w' := by
  refine (of_any A n c l w hl hr (by omega)).mono ?_
  rintro e w' ⟨v, rfl, hv, hx⟩
  exact ⟨v, rfl, hv.mono (by omega), hx⟩
set_option maxRecDepth 20000 in
set_option maxHeartbeats 8000000 in
theorem scalars_walk (A : Option Addr) (n c : Nat) (f g s : Nat → UInt8) (ev : Value) (w0 : World) (lb : Bool) (L m : Nat) (hlb : Hid (lb = decide (V f < L)))
    (hO : ∀ w, Calls Try.prog 38 #[] w fun e w' => ∃ v, e = .returned v ∧ Num w' v L 11 ∧ Ext w w')
    (hSc : ∀ w, Ext w0 w → Calls Try.prog 33 #[.slice A n c] w fun e w' => e = .returned (.tuple #[.agg (bcells s), ev]) ∧ Ext w w')
    (hLo : ∀ w, Calls Try.prog 34 #[.agg (bcells f)] w fun e w' => e = .returned (.bool lb) ∧ Ext w w')
    (hMA : ∀ w, Calls Try.prog 35 #[.agg (bcells f), .agg (bcells g), .agg (bcells s)] w fun e w' => e = .returned (.agg (bcells (nb m))) ∧ Ext w w')
    (hRM : ∀ w, Calls Try.prog 39 #[.agg (bcells f), .agg (bcells g), .agg (bcells s)] w fun e w' => e = .returned (.agg (bcells (nb m))) ∧ Ext w w')
    (hcase : (64 < n ∧ ev = errLong ∧ s = fun _ => 0) ∨ (n ≤ 64 ∧ ev = .nilIface ∧ ∃ N, s = nb (N % L) ∧
      (∀ w, Ext w0 w → Calls Try.prog 37 #[.slice A n c] w fun e w' => ∃ v, e = .returned v ∧ Num w' v N 1000 ∧ Ext w w') ∧
      (∀ w v, Num w v N 1000 → Calls Try.prog 41 #[v] w fun e w' => ∃ v, e = .returned v ∧ Num w' v (N % L) 11 ∧ Ext w w'))) :
    Calls Try.prog 8 #[.slice A n c, .agg (bcells f), .agg (bcells g)] w0 fun e w' => e = .returned (.bool true) ∧ Ext w0 w' := by
  go_enter Try.func8, Try.ntmps8
  go_upto_region 1 with fail
  obtain ⟨wc, hW⟩ : ∃ W, W = ((w0.alloc (.cells (bcells f) 22)).alloc (.cells (bcells g) 22)) := ⟨_, rfl⟩
  rw [← hW]
  have h4 : rdB wc w0.heap.size f := by rw [hW]; exact (rdB.new _ _ _).ext (ext_alloc _ _)
  have h5 : rdB wc (w0.heap.size + 1) g := by rw [hW]; exact rdB.new_ _ _ _ (by simp)
  have HE : Ext w0 wc := by rw [hW]; exact (ext_alloc _ _).trans (ext_alloc _ _)
  clear hW
  go_cut [7] from 12 to 12 (fun p wx => p = .bool true ∧ Ext wc wx)
  case first =>
    go_wp2_with (go_at_call 28; with_reducible refine (shown7_any _).mono ?_; rintro e w' ⟨rfl, hx⟩)
    go_meet
    case rel => exact ⟨rfl, hx⟩
  case rest =>
  obtain ⟨rfl, hx⟩ := hcut
  replace h4 := rdB.ext hx h4
  replace h5 := rdB.ext hx h5
  replace HE := HE.trans hx
  clear hx
  go_upto_region 2 with fail
  go_cut [8, 9] from 13 to 17 (fun p q wx => ∃ n : Nat, p = .pointer (some ⟨n, 0, none⟩) ∧ q = ev ∧ rdB wx n s ∧ Ext wc wx)
  case first =>
    go_wp2_with (go_at_call 33; with_reducible refine (hSc _ HE).mono ?_; rintro e w' ⟨rfl, hx⟩; obtain ⟨l', rfl⟩ := grw_of_ext hx; clear hx)
    go_meet
    case rel => exact ⟨_, rfl, rfl, rdB.new_ _ _ _ rfl, (grw_ext _ _).trans (ext_alloc _ _)⟩
  case rest =>
  obtain ⟨n8, rfl, rfl, h8, hx⟩ := hcut
  replace h4 := rdB.ext hx h4
  replace h5 := rdB.ext hx h5
  replace HE := HE.trans hx
  clear hx
  go_upto_region 3 with fail
  go_cut [10] from 18 to 19 (fun p wx => p = .bool lb ∧ Ext wc wx)
  case first =>
    have e1 := rdB_opt h4
    go_wp2_with (go_at_call 34; with_reducible refine (hLo _).mono ?_; rintro e w' ⟨rfl, hx⟩)
    go_meet
    case rel => exact ⟨rfl, hx⟩
  case rest =>
  obtain ⟨rfl, hx⟩ := hcut
  replace h4 := rdB.ext hx h4
  replace h5 := rdB.ext hx h5
  replace h8 := rdB.ext hx h8
  replace HE := HE.trans hx
  clear hx
  go_upto_region 4 with fail
  go_cut [11] from 20 to 23 (fun p wx => ∃ n : Nat, p = .pointer (some ⟨n, 0, none⟩) ∧ rdB wx n (nb m) ∧ Ext wc wx)
  case first =>
    have e1 := rdB_opt h4
    have e2 := rdB_opt h5
    have e3 := rdB_opt h8
    go_wp2_with (go_at_call 35; with_reducible refine (hMA _).mono ?_; rintro e w' ⟨rfl, hx⟩; obtain ⟨l', rfl⟩ := grw_of_ext hx; clear hx)
    go_meet
    case rel => exact ⟨_, rfl, rdB.new_ _ _ _ rfl, (grw_ext _ _).trans (ext_alloc _ _)⟩
  case rest =>
  obtain ⟨n11, rfl, h11, hx⟩ := hcut
  replace h4 := rdB.ext hx h4
  replace h5 := rdB.ext hx h5
  replace h8 := rdB.ext hx h8
  replace HE := HE.trans hx
  clear hx
  go_upto_region 5 with fail
  go_cut [10, 38] from 24 to 38 (fun q p wx => q = .bool lb ∧ p = .bool false ∧ Ext wc wx)
  case first =>
    have e1 := rdB_opt h4
    have e2 := rdB_opt h5
    have e3 := rdB_opt h8
    have e4 := rdB_opt h11
    have h4' := rdB.ext (ext_drew wc) h4
    rcases Bool.eq_false_or_eq_true lb with hb | hb
    rotate_left
    · have hge : ¬ V f < L := of_decide_eq_false (hlb.out.symm.trans hb)
      go_region_law (first
        | (go_simp; go_at_call 37; (with_reducible refine (of_numB _ f wc.drew h4').mono ?_); rintro e w1 ⟨v1, rfl, hv1, hx1⟩)
        | (go_simp; go_at_call 38; (with_reducible refine (hO w1).mono ?_); rintro e w2 ⟨v2, rfl, hv2, hx2⟩; replace hv1 := hv1.ext hx2; replace hx2 := hx1.trans hx2)
        | (go_simp; go_at_call 38; (with_reducible refine (hO wc.drew).mono ?_); rintro e w1 ⟨v2, rfl, hv2, hx1⟩)
        | (go_simp; go_at_call 37; (with_reducible refine (of_numB _ f w1 (rdB.ext hx1 h4')).mono ?_); rintro e w2 ⟨v1, rfl, hv1, hx2⟩; replace hv2 := hv2.ext hx2; replace hx2 := hx1.trans hx2)
        | (go_simp; go_at_call 36; (with_reducible refine (cmp_sign w2 v1 v2 _ _ hv1 hv2).mono ?_); rintro e w3 ⟨c3, rfl, hc3, hx3⟩; have hc4 : ¬ c3 < 0 := (by unfold cmpIs at hc3; omega); replace hx3 := (ext_drew wc).trans (hx2.trans hx3); have o1 := rdB_opt (rdB.ext hx3 h4); have o2 := rdB_opt (rdB.ext hx3 h5); have o3 := rdB_opt (rdB.ext hx3 h8); have o4 := rdB_opt (rdB.ext hx3 h11))
        | (go_simp; go_at_call 39; (with_reducible refine (hRM w3).mono ?_); rintro e w4 ⟨rfl, hx4⟩; replace hx4 := hx3.trans hx4; have o5 := rdB_opt (rdB.ext hx4 h11)))
      all_goals
        simp only [List.getElem_toArray, List.getElem_cons_zero, List.getElem_cons_succ, Act.put, List.setIfInBounds_toArray, List.set_cons_zero, List.set_cons_succ]
        go_wp2
        go_meet
        case rel => exact ⟨by rw [hb], rfl, hx4⟩
    · have hge : V f < L := of_decide_eq_true (hlb.out.symm.trans hb)
      go_region_law (first
        | (go_simp; go_at_call 37; (with_reducible refine (of_numB _ f wc.drew h4').mono ?_); rintro e w1 ⟨v1, rfl, hv1, hx1⟩)
        | (go_simp; go_at_call 38; (with_reducible refine (hO w1).mono ?_); rintro e w2 ⟨v2, rfl, hv2, hx2⟩; replace hv1 := hv1.ext hx2; replace hx2 := hx1.trans hx2)
        | (go_simp; go_at_call 38; (with_reducible refine (hO wc.drew).mono ?_); rintro e w1 ⟨v2, rfl, hv2, hx1⟩)
        | (go_simp; go_at_call 37; (with_reducible refine (of_numB _ f w1 (rdB.ext hx1 h4')).mono ?_); rintro e w2 ⟨v1, rfl, hv1, hx2⟩; replace hv2 := hv2.ext hx2; replace hx2 := hx1.trans hx2)
        | (go_simp; go_at_call 36; (with_reducible refine (cmp_sign w2 v1 v2 _ _ hv1 hv2).mono ?_); rintro e w3 ⟨c3, rfl, hc3, hx3⟩; have hc4 : c3 < 0 := (by unfold cmpIs at hc3; omega); replace hx3 := (ext_drew wc).trans (hx2.trans hx3); have o1 := rdB_opt (rdB.ext hx3 h4); have o2 := rdB_opt (rdB.ext hx3 h5); have o3 := rdB_opt (rdB.ext hx3 h8); have o4 := rdB_opt (rdB.ext hx3 h11))
        | (go_simp; go_at_call 39; (with_reducible refine (hRM w3).mono ?_); rintro e w4 ⟨rfl, hx4⟩; replace hx4 := hx3.trans hx4; have o5 := rdB_opt (rdB.ext hx4 h11)))
      all_goals
        simp only [List.getElem_toArray, List.getElem_cons_zero, List.getElem_cons_succ, Act.put, List.setIfInBounds_toArray, List.set_cons_zero, List.set_cons_succ]
        go_wp2
        go_meet
        case rel => exact ⟨by rw [hb], rfl, hx4⟩
  case rest =>
  obtain ⟨rfl, rfl, hx⟩ := hcut
  replace h8 := rdB.ext hx h8
  replace HE := HE.trans hx
  clear hx h4 h5 h11 hO hLo hMA hRM hSc hlb
  rcases hcase with ⟨hn, rfl, rfl⟩ | ⟨hn, rfl, N, rfl, hOf, hRe⟩
  · have hnI : (64 : Int) < (n : Int) := by omega
    have hz : beqb (fun _ => 0) (nb 0) = true := by rw [nb_zero]; exact beqb_self _
    unfold errLong
    go_upto_region 8 with fail
    have h8' := rdB.ext (ext_drew wc) h8
    have e1 := rdB_opt h8'
    go_region_law (first
      | (go_simp; go_at_call 40; (with_reducible refine (sm7_0 wc.drew).mono ?_); rintro e w1 ⟨rfl, hx1⟩; replace hx1 := (ext_drew wc).trans hx1; have e2 := rdB_opt (rdB.ext hx1 h8)))
    all_goals
      simp only [List.getElem_toArray, List.getElem_cons_zero, List.getElem_cons_succ, Act.put, List.setIfInBounds_toArray, List.set_cons_zero, List.set_cons_succ]
      go_wp2
      go_ret
      exact ⟨rfl, HE.trans hx1⟩
  · have hnI : ¬ (64 : Int) < (n : Int) := by omega
    go_upto_region 9 with fail
    have h8' := rdB.ext (ext_drew wc) h8
    have e1 := rdB_opt h8'
    have HE' := HE.trans (ext_drew wc)
    go_region_law (first
      | (go_simp; go_at_call 37; (with_reducible refine (hOf wc.drew HE').mono ?_); rintro e w1 ⟨v1, rfl, hv1, hx1⟩; replace hx1 := (ext_drew wc).trans hx1; have e2 := rdB_opt (rdB.ext hx1 h8))
      | (go_simp; go_at_call 41; (with_reducible refine (hRe w1 v1 hv1).mono ?_); rintro e w2 ⟨v2, rfl, hv2, hx2⟩; replace hx2 := hx1.trans hx2; have e3 := rdB_opt (rdB.ext hx2 h8))
      | (go_simp; go_at_call 17; (with_reducible refine (bytes_num w2 v2 _ hv2).mono ?_); rintro e w3 ⟨rfl, hx3⟩; replace hx3 := hx2.trans hx3; have e4 := rdB_opt (rdB.ext hx3 h8)))
    all_goals
      simp only [List.getElem_toArray, List.getElem_cons_zero, List.getElem_cons_succ, Act.put, List.setIfInBounds_toArray, List.set_cons_zero, List.set_cons_succ]
      go_wp2
      go_ret
      exact ⟨rfl, HE.trans hx3⟩
theorem scalars_w (A : Option Addr) (n c : Nat) (l : List UInt8) (f g : Nat → UInt8) (w : World) (hl : l.length = n) (hr : Rd w A (l.map bv)) :
    Calls Try.prog 8 #[.slice A n c, .agg (bcells f), .agg (bcells g)] w fun e w' => e = .returned (.bool true) ∧ Ext w w' := by
  have hlow := fun w => low_any f w
  have hma := fun s w => muladd_any f g s w
  have hrm := fun s w => rmuladd_any f g s w
  have hre := rrest_any (L := ordN) (hL := rfl)
  have hsc := scalar_ok A n c l
  have hlb := low_dec f
  have hO := rorder_any
  generalize ordN = L at *
  rw [hlb] at hlow
  by_cases hn : n ≤ 64
  · exact scalars_walk A n c f g _ .nilIface w _ L _ (Lib.hid rfl) hO (fun w1 hx => hsc w1 hl (hr.ext hx) hn) hlow (hma _) (hrm _) (.inr ⟨hn, rfl, _, rfl, fun w1 hx => of_num64 A n c l w1 hl (hr.ext hx) hn, fun w1 v hv => hre w1 v _ hv⟩)
  · exact scalars_walk A n c f g _ errLong w _ L _ (Lib.hid rfl) hO (fun w1 hx => scalar_long A n c w1 (by omega)) hlow (hma _) (hrm _) (.inl ⟨by omega, rfl, rfl⟩)
end Go.Proofs.Ytndohjgfjbopnaa
