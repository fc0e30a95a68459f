/-
  The document's answer of layer 7: Is, Root, xOf.
-/
import Derived.Test.YtndohjgfjbopnaaRefS
set_option linter.unusedSimpArgs false
set_option linter.unusedVariables false
namespace Go.Cv
open Go.RowKit Go.Cv.Pr Go.Cv.Grp
theorem neg_sq {n : Nat} [NeZero n] (a b : Fin n) (h : a + b = 0) : a * a = b * b := by grind
theorem neg_of {n : Nat} [NeZero n] (a b : Fin n) (h : a + b = 0) : a = 0 - b := by grind
/-- The even root, and whether there is one. -/
def okF (x : F7) : Bool := rtOk x.val
def rtF (x : F7) : F7 := tf (rtv x.val)
theorem okF_sq {x y : F7} (h : y * y = x) : okF x = true := by
  refine rtOk_sq (b := y.val) ?_
  rw [← tf_eq, tf_mul, tf_val, tf_val, h]
theorem rtF_sq {x : F7} (h : okF x = true) : rtF x * rtF x = x := by
  have h1 : Eqp (rtc x.val * rtc x.val) x.val := of_decide_eq_true h
  have h2 := h1.tf
  rw [tf_mul, tf_val] at h2
  rcases rtv_two h1 with h3 | h3
  · have h4 := h3.tf
    unfold rtF
    rw [h4, h2]
  · have h4 := h3.tf
    rw [tf_add, tf_zero] at h4
    rw [← neg_sq _ _ h4] at h2
    exact h2
theorem rtF_even (x : F7) : (rtF x).val % 2 = 0 := rtv_even x.val
theorem rtF_two {x y : F7} (h : y * y = x) : rtF x = y ∨ rtF x = 0 - y := by
  have h1 : Eqp (y.val * y.val) x.val := by rw [← tf_eq, tf_mul, tf_val, tf_val, h]
  rcases rtv_two h1 with h3 | h3
  · left
    have h4 := h3.tf
    rw [tf_val] at h4
    exact h4
  · right
    have h4 := h3.tf
    rw [tf_add, tf_zero, tf_val] at h4
    exact neg_of _ _ h4
theorem neg_val (y : F7) (h : y ≠ 0) : (0 - y).val = pp - y.val := by
  have h1 : y.val ≠ 0 := fun h2 => h (Fin.ext h2)
  have h2 := y.isLt
  rw [Fin.val_sub]
  show (pp - y.val + 0) % pp = _
  rw [Nat.add_zero, Nat.mod_eq_of_lt (by omega)]
theorem neg_odd (y : F7) (h : y ≠ 0) : (0 - y).val % 2 = 1 - y.val % 2 := by
  rw [neg_val y h]
  have h2 := y.isLt
  have h3 : pp % 2 = 1 := by unfold pp; decide
  omega
theorem rtF_is {x y : F7} (h : y * y = x) (he : y.val % 2 = 0) : rtF x = y := by
  rcases rtF_two h with h1 | h1
  · exact h1
  · by_cases h0 : y = 0
    · subst h0
      rw [h1]
      decide
    · have h2 := rtF_even x
      rw [h1, neg_odd y h0] at h2
      omega
end Go.Cv
namespace Go.Proofs.Ytndohjgfjbopnaa
open Go.RowKit Go.Cv Go.Cv.Pr Go.Cv.Grp Go.Cv.Dig
theorem rdP_x {W : World} {n : Nat} {f g : Nat → UInt8} (h : rdP W n f g) : rowOpt W n = none ∧ ld32y n W = .ok (bcells f) W := by
  obtain ⟨t, hc, h64⟩ := ptOpt_some h
  refine ⟨?_, ?_⟩
  · unfold rowOpt
    rw [hc]
    simp [h64]
  · have := run_loadCells_list (P := Try.prog) W ⟨n, 0, none⟩ (bcells f).toList (fun j v hv => by
      have hadd : (⟨n, 0, none⟩ : Addr).add j = ⟨n, j, none⟩ := by unfold Addr.add; split <;> simp_all
      rw [hadd, cell_of_row _ _ j _ t (0, 0) hc, pc_eq]
      have hj := (List.getElem?_eq_some_iff.1 hv).1
      rw [Array.getElem?_append_left (by simpa using hj)]
      simpa using hv)
    unfold ld32y ld32
    simpa only [loadCells, Array.length_toList, bcells_size, Array.toArray_toList] using this
theorem rdP_y {W : World} {n : Nat} {f g : Nat → UInt8} (h : rdP W n f g) : ld32 ⟨n, 32, none⟩ W = .ok (bcells g) W := by
  obtain ⟨t, hc, h64⟩ := ptOpt_some h
  have := run_loadCells_list (P := Try.prog) W ⟨n, 32, none⟩ (bcells g).toList (fun j v hv => by
    have hadd : (⟨n, 32, none⟩ : Addr).add j = ⟨n, 32 + j, none⟩ := by unfold Addr.add; split <;> simp_all
    rw [hadd, cell_of_row _ _ (32 + j) _ t (0, 0) hc, pc_eq]
    rw [Array.getElem?_append_right (by simp)]
    simpa using hv)
  unfold ld32
  simpa only [loadCells, Array.length_toList, bcells_size, Array.toArray_toList] using this
attribute [go_sem] Option.elim_none
theorem nroot {w : World} {v1 : Value} {x : F7} (h1 : NF w v1 x) :
    Calls Try.prog 20 #[v1] w fun e w' => ∃ v, e = .returned (.tuple #[v, .bool (okF x)]) ∧ (okF x = true → NF w' v (rtF x)) ∧ Ext w w' := by
  obtain ⟨P, hP⟩ : ∃ P, P = 2 ^ 255 - 19 := ⟨_, rfl⟩
  have hxP : x.val % P = x.val := Nat.mod_eq_of_lt (by rw [hP]; exact x.isLt)
  obtain ⟨r0, h0⟩ : ∃ r0, r0 = pE x.val % P := ⟨_, rfl⟩
  obtain ⟨r, hr⟩ : ∃ r, r = rtc x.val % P := ⟨_, rfl⟩
  obtain ⟨k1, k2, k3, k4, k5⟩ := root_ref x.val P r0 r hP h0 hr
  rw [hxP] at k1 k2 k3 k4
  have hlt : (if r % 2 = 1 then (0 + 2 * P - r) % P else r) < 2 ^ 256 := by
    have hp : 0 < P := by rw [hP]; decide
    have h2 : P < 2 ^ 256 := by rw [hP]; decide
    have h3 : r < P := by rw [hr]; exact Nat.mod_lt _ hp
    split
    · exact Nat.lt_trans (Nat.mod_lt _ hp) h2
    · omega
  have hval : okF x = true → (rtF x).val = if r % 2 = 1 then (0 + 2 * P - r) % P else r := fun h => by
    have h2 := k5 h
    unfold ob at h2
    rw [beqb_nb (Nat.lt_trans (Nat.mod_lt _ (by decide)) (by decide)) hlt] at h2
    exact of_decide_eq_true h2
  refine (rroot_any w v1 x.val P hP h1 r0 r k1 k2 k3).mono ?_
  rintro e w' ⟨v, rfl, h2, hx⟩
  refine ⟨v, by unfold okF; rw [k4], fun h => ?_, hx⟩
  unfold NF
  rw [hval h]
  refine h2 ?_
  unfold okF at h
  rw [k4] at h
  exact of_decide_eq_true h
set_option maxHeartbeats 8000000
set_option maxRecDepth 20000
theorem nxof {w : World} {v1 : Value} {y : F7} (h1 : NF w v1 y) :
    Calls Try.prog 75 #[v1] w fun e w' => ∃ v, e = .returned (.tuple #[v, .bool (okF ((y * y - 1) * fiv (C7.d * (y * y) + 1)))]) ∧ (okF ((y * y - 1) * fiv (C7.d * (y * y) + 1)) = true → NF w' v (rtF ((y * y - 1) * fiv (C7.d * (y * y) + 1)))) ∧ Ext w w' := by
  have hD := nD
  generalize C7.d = d at *
  obtain ⟨q, hq⟩ : ∃ q, q = (y * y - 1) * fiv (d * (y * y) + 1) := ⟨_, rfl⟩
  rw [← hq]
  replace hq := Lib.hid hq
  go_enter Try.func75, Try.ntmps75
  go_wp2_with (first
    | (go_at_call 26; with_reducible refine (nmul h1 h1).mono ?_; rintro e w1 ⟨yy, rfl, hyy, hx1⟩)
    | (go_at_call 43; with_reducible refine (hD _).mono ?_; rintro e w2 ⟨dd, rfl, hdd, hx2⟩)
    | (go_at_call 26; with_reducible refine (nmul hdd (hyy.ext hx2)).mono ?_; rintro e w3 ⟨p, rfl, hp, hx3⟩)
    | (go_at_call 22; with_reducible refine (nadd (hp.ext (ext_alloc _ _)) (NF.one _ _)).mono ?_; rintro e w4 ⟨o, rfl, ho, hx4⟩; have hyy4 := hyy.ext (hx2.trans (hx3.trans ((ext_alloc _ _).trans hx4))))
    | (go_at_call 24; with_reducible refine (nsub (hyy4.ext (ext_alloc _ _)) (NF.one _ _)).mono ?_; rintro e w5 ⟨s, rfl, hs, hx5⟩)
    | (go_at_call 74; with_reducible refine (nratio hs (ho.ext ((ext_alloc _ _).trans hx5))).mono ?_; rintro e w6 ⟨t, rfl, ht, hx6⟩; rw [← hq.out] at ht)
    | (go_at_call 20; with_reducible refine (nroot ht).mono ?_; rintro e w7 ⟨u, rfl, hu, hx7⟩))
  go_ret2
  exact ⟨_, rfl, hu, hx1.trans (hx2.trans (hx3.trans ((ext_alloc _ _).trans (hx4.trans ((ext_alloc _ _).trans (hx5.trans (hx6.trans hx7)))))))⟩
theorem ris (f g : Nat → UInt8) (w : World) :
    Calls Try.prog 31 #[.agg (pc f g)] w fun e w' => e = .returned (.bool (decide (tf (V g) * tf (V g) - tf (V f) * tf (V f) = 1 + C7.d * (tf (V f) * tf (V f)) * (tf (V g) * tf (V g))))) ∧ Ext w w' := by
  obtain ⟨x, hx⟩ : ∃ x, x = tf (V f) := ⟨_, rfl⟩
  obtain ⟨y, hy⟩ : ∃ y, y = tf (V g) := ⟨_, rfl⟩
  have hf := nin f
  have hg := nin g
  have hD := nD
  have hO := @non
  rw [← hx, ← hy]
  rw [← hx] at hf
  rw [← hy] at hg
  clear hx hy
  obtain ⟨b, hb⟩ : ∃ b, b = decide (y * y - x * x = 1 + C7.d * (x * x) * (y * y)) := ⟨_, rfl⟩
  replace hO : ∀ {w : World} {v1 v2 v3 : Value}, NF w v1 x → NF w v2 y → NF w v3 C7.d → Calls Try.prog 73 #[v1, v2, v3] w fun e w' => e = .returned (.bool b) ∧ Ext w w' := by
    intro w v1 v2 v3 h1 h2 h3
    rw [hb]
    exact hO h1 h2 h3
  rw [← hb]
  clear hb
  generalize C7.d = d at *
  go_enter Try.func31, Try.ntmps31
  go_upto_region 1 with fail
  obtain ⟨W0, hW0⟩ : ∃ W0, W0 = w.alloc (.cells (pc f g) 43) := ⟨_, rfl⟩
  obtain ⟨n, hn⟩ : ∃ n, n = w.heap.size := ⟨_, rfl⟩
  rw [← hW0, ← hn]
  have hR : rdP W0 n f g := by rw [hW0, hn]; exact rdP.new _ _ _ _
  have hx0 : Ext w W0 := by rw [hW0]; exact ext_alloc _ _
  clear hW0 hn
  have hd0 := ext_drew W0
  have hR0 := rdP.ext hd0 hR
  obtain ⟨ra1, ra2⟩ := rdP_x hR0
  have ra3 := rdP_y hR0
  go_region_law (first
    | (go_simp; go_at_call 15; (with_reducible refine (hf _).mono ?_); rintro e wf ⟨vx, rfl, hvx, hxf⟩; have ef : Ext W0 wf := (by (first | exact Ext.refl _ | assumption | (refine Ext.trans (by assumption) ?_; first | exact Ext.refl _ | assumption | (refine Ext.trans (by assumption) ?_; first | exact Ext.refl _ | assumption | (refine Ext.trans (by assumption) ?_; first | exact Ext.refl _ | assumption | (refine Ext.trans (by assumption) ?_; first | exact Ext.refl _ | assumption)))))); have hRf := rdP.ext ef hR; obtain ⟨rb1, rb2⟩ := rdP_x hRf; have rb3 := rdP_y hRf)
    | (go_simp; go_at_call 15; (with_reducible refine (hg _).mono ?_); rintro e wg ⟨vy, rfl, hvy, hxg⟩; have eg : Ext W0 wg := (by (first | exact Ext.refl _ | assumption | (refine Ext.trans (by assumption) ?_; first | exact Ext.refl _ | assumption | (refine Ext.trans (by assumption) ?_; first | exact Ext.refl _ | assumption | (refine Ext.trans (by assumption) ?_; first | exact Ext.refl _ | assumption | (refine Ext.trans (by assumption) ?_; first | exact Ext.refl _ | assumption)))))); have hRg := rdP.ext eg hR; obtain ⟨rc1, rc2⟩ := rdP_x hRg; have rc3 := rdP_y hRg)
    | (go_simp; go_at_call 43; (with_reducible refine (hD _).mono ?_); rintro e wd ⟨vd, rfl, hvd, hxd⟩; have ed : Ext W0 wd := (by (first | exact Ext.refl _ | assumption | (refine Ext.trans (by assumption) ?_; first | exact Ext.refl _ | assumption | (refine Ext.trans (by assumption) ?_; first | exact Ext.refl _ | assumption | (refine Ext.trans (by assumption) ?_; first | exact Ext.refl _ | assumption | (refine Ext.trans (by assumption) ?_; first | exact Ext.refl _ | assumption)))))); have hRd := rdP.ext ed hR; obtain ⟨re1, re2⟩ := rdP_x hRd; have re3 := rdP_y hRd)
    | (go_simp; go_at_call 73; (with_reducible refine (hO (hvx.ext (by (first | exact Ext.refl _ | assumption | (refine Ext.trans (by assumption) ?_; first | exact Ext.refl _ | assumption | (refine Ext.trans (by assumption) ?_; first | exact Ext.refl _ | assumption | (refine Ext.trans (by assumption) ?_; first | exact Ext.refl _ | assumption | (refine Ext.trans (by assumption) ?_; first | exact Ext.refl _ | assumption))))))) (hvy.ext (by (first | exact Ext.refl _ | assumption | (refine Ext.trans (by assumption) ?_; first | exact Ext.refl _ | assumption | (refine Ext.trans (by assumption) ?_; first | exact Ext.refl _ | assumption | (refine Ext.trans (by assumption) ?_; first | exact Ext.refl _ | assumption | (refine Ext.trans (by assumption) ?_; first | exact Ext.refl _ | assumption))))))) (hvd.ext (by (first | exact Ext.refl _ | assumption | (refine Ext.trans (by assumption) ?_; first | exact Ext.refl _ | assumption | (refine Ext.trans (by assumption) ?_; first | exact Ext.refl _ | assumption | (refine Ext.trans (by assumption) ?_; first | exact Ext.refl _ | assumption | (refine Ext.trans (by assumption) ?_; first | exact Ext.refl _ | assumption)))))))).mono ?_); rintro e wo ⟨rfl, hxo⟩))
  all_goals
    have hfin : Ext W0 wo := by (first | exact Ext.refl _ | assumption | (refine Ext.trans (by assumption) ?_; first | exact Ext.refl _ | assumption | (refine Ext.trans (by assumption) ?_; first | exact Ext.refl _ | assumption | (refine Ext.trans (by assumption) ?_; first | exact Ext.refl _ | assumption | (refine Ext.trans (by assumption) ?_; first | exact Ext.refl _ | assumption)))))
    clear hvx hvy hvd
    simp only [List.getElem_toArray, List.getElem_cons_zero, List.getElem_cons_succ, Act.put, List.setIfInBounds_toArray, List.set_cons_zero, List.set_cons_succ]
    go_wp2
    go_ret
    exact ⟨rfl, hx0.trans hfin⟩
end Go.Proofs.Ytndohjgfjbopnaa
