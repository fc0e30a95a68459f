/-
  The curve's points: the sum walked.
-/
import Derived.Test.YtgeihelkkhjjaaaDoorCrvC
set_option linter.unusedSimpArgs false
set_option linter.unusedVariables false
namespace Go.Proofs.YtgeihelkkhjjaaaDoor
open Go.RowKit Go.Cv Go.Cv.Pr Go.Cv.Grp
def plan_83_0 : List Plan := [⟨[], []⟩, ⟨[], []⟩, ⟨[], []⟩]
def plan_83_1 : List Plan := [⟨[], []⟩, ⟨[0], [(13, 0)]⟩, ⟨[0, 1], [(14, 1)]⟩, ⟨[], []⟩, ⟨[3], [(16, 3)]⟩, ⟨[3, 4], [(17, 4)]⟩, ⟨[0, 1, 2, 3, 4, 5], [(15, 2), (18, 5)]⟩, ⟨[], []⟩, ⟨[7], [(20, 7)]⟩, ⟨[7, 8], [(21, 8)]⟩, ⟨[], []⟩, ⟨[10], [(23, 10)]⟩, ⟨[10, 11], [(24, 11)]⟩, ⟨[0, 1, 2, 3, 4, 5, 6, 7, 8, 9, 10, 11, 12], [(22, 9), (25, 12)]⟩, ⟨[0, 1, 2, 3, 4, 5, 6, 7, 8, 9, 10, 11, 12, 13], [(19, 6), (26, 13)]⟩, ⟨[], []⟩, ⟨[0, 1, 2, 3, 4, 5, 6, 7, 8, 9, 10, 11, 12, 13, 14, 15], [(27, 14), (5, 15)]⟩]
def plan_83_2 : List Plan := [⟨[], []⟩, ⟨[0], [(28, 0)]⟩, ⟨[0, 1], [(29, 1)]⟩, ⟨[], []⟩, ⟨[3], [(31, 3)]⟩, ⟨[3, 4], [(32, 4)]⟩, ⟨[0, 1, 2, 3, 4, 5], [(30, 2), (33, 5)]⟩, ⟨[], []⟩, ⟨[7], [(35, 7)]⟩, ⟨[7, 8], [(36, 8)]⟩, ⟨[], []⟩, ⟨[10], [(38, 10)]⟩, ⟨[10, 11], [(39, 11)]⟩, ⟨[0, 1, 2, 3, 4, 5, 6, 7, 8, 9, 10, 11, 12], [(37, 9), (40, 12)]⟩, ⟨[0, 1, 2, 3, 4, 5, 6, 7, 8, 9, 10, 11, 12, 13], [(34, 6), (41, 13)]⟩, ⟨[], []⟩, ⟨[0, 1, 2, 3, 4, 5, 6, 7, 8, 9, 10, 11, 12, 13, 14, 15], [(42, 14), (6, 15)]⟩]
def plan_83_3 : List Plan := [⟨[], []⟩, ⟨[0], [(43, 0)]⟩, ⟨[], []⟩, ⟨[2], [(45, 2)]⟩, ⟨[0, 1, 2, 3], [(44, 1), (46, 3)]⟩, ⟨[0, 1, 2, 3, 4], []⟩, ⟨[0, 1, 2, 3, 4, 5], [(47, 4), (48, 5)]⟩, ⟨[], []⟩, ⟨[0, 1, 2, 3, 4, 5, 6, 7], [(49, 6), (7, 7)]⟩]
def plan_83_4 : List Plan := [⟨[], []⟩, ⟨[0], [(50, 0)]⟩, ⟨[], []⟩, ⟨[2], [(52, 2)]⟩, ⟨[0, 1, 2, 3], [(51, 1), (53, 3)]⟩, ⟨[], []⟩, ⟨[0, 1, 2, 3, 4, 5], [(54, 4), (8, 5)]⟩]
def plan_83_5 : List Plan := [⟨[], []⟩, ⟨[], []⟩, ⟨[0, 1], [(55, 0), (56, 1)]⟩, ⟨[0, 1, 2], [(57, 2)]⟩]
def plan_83_6 : List Plan := [⟨[], []⟩, ⟨[], []⟩, ⟨[0, 1], [(58, 0), (59, 1)]⟩, ⟨[], []⟩, ⟨[], []⟩, ⟨[0, 1, 2, 3, 4], [(61, 3), (62, 4)]⟩, ⟨[], []⟩, ⟨[], []⟩, ⟨[0, 1, 2, 3, 4, 5, 6, 7], [(64, 6), (65, 7)]⟩, ⟨[], []⟩, ⟨[], []⟩, ⟨[0, 1, 2, 3, 4, 5, 6, 7, 8, 9, 10], [(67, 9), (68, 10)]⟩, ⟨[], []⟩, ⟨[], []⟩, ⟨[], []⟩, ⟨[], []⟩, ⟨[0, 1, 2, 3, 4, 5, 6, 7, 8, 9, 10, 11, 12, 13, 14, 15], [(60, 2), (9, 12)]⟩, ⟨[0, 1, 2, 3, 4, 5, 6, 7, 8, 9, 10, 11, 12, 13, 14, 15, 16], [(63, 5), (10, 13)]⟩, ⟨[0, 1, 2, 3, 4, 5, 6, 7, 8, 9, 10, 11, 12, 13, 14, 15, 16, 17], [(66, 8), (11, 14)]⟩, ⟨[0, 1, 2, 3, 4, 5, 6, 7, 8, 9, 10, 11, 12, 13, 14, 15, 16, 17, 18], [(69, 11), (12, 15)]⟩]
def plan_83_7 : List Plan := [⟨[], []⟩, ⟨[], []⟩, ⟨[0, 1], [(70, 0), (71, 1)]⟩, ⟨[], []⟩, ⟨[], []⟩, ⟨[0, 1, 2, 3, 4], [(73, 3), (74, 4)]⟩, ⟨[0, 1, 2, 3, 4, 5], [(72, 2), (75, 5)]⟩, ⟨[], []⟩, ⟨[], []⟩, ⟨[0, 1, 2, 3, 4, 5, 7, 8], [(77, 7), (78, 8)]⟩, ⟨[], []⟩, ⟨[], []⟩, ⟨[0, 1, 2, 3, 4, 5, 7, 8, 9, 10, 11], [(80, 10), (81, 11)]⟩, ⟨[0, 1, 2, 3, 4, 5, 6, 7, 8, 9, 10, 11, 12], [(76, 6), (79, 9), (82, 12)]⟩, ⟨[0, 1, 2, 3, 4, 5, 6, 7, 8, 9, 10, 11, 12, 13], [(83, 13)]⟩]
set_option maxRecDepth 20000 in
set_option maxHeartbeats 8000000 in
theorem wplus_any {u v : Value} {P Q : P7} (hu : isP u P) (hv : isP v Q) (w : World) :
    Calls Tryd.prog 38 #[u, v] w fun e w' => ∃ r, e = .returned r ∧ isP r (P.add Q) ∧ Ext w w' := by
  obtain ⟨X1, Y1, Z1, T1, hu, hP⟩ := hu
  obtain ⟨X2, Y2, Z2, T2, hv, hQ⟩ := hv
  obtain ⟨c0, rfl, -, -, hc0⟩ := isW_cells hu
  obtain ⟨c1, rfl, -, -, hc1⟩ := isW_cells hv
  clear hu hv
  go_enter Tryd.func38, Tryd.ntmps38
  have hx : Ext w w := Ext.refl w
  go_upto_region 0 with fail
  have hok : TrsOk [] w.heap.size ([(tk (some 0) 0 82 (none) (fun u => isW u (X1) (Y1) (Z1) (T1)) (fun _ => True)), (tk (some 1) 0 82 (none) (fun u => isW u (X2) (Y2) (Z2) (T2)) (fun _ => True)), (tk (some 2) 0 82 (none) (sz 16) (fun _ => True))] : List Trk) := ⟨by simp [tk], by simp [tk], by simp [tk], by simp [tk]⟩
  refine wp_region_text (Inv [] (fun _ _ => True) [(tk (some 0) 0 82 (none) (fun u => isW u (X1) (Y1) (Z1) (T1)) (fun _ => True)), (tk (some 1) 0 82 (none) (fun u => isW u (X2) (Y2) (Z2) (T2)) (fun _ => True)), (tk (some 2) 0 82 (none) (sz 16) (fun _ => True))] w) plan_83_0 [(2, 0), (3, 1), (4, 2)] 84 rfl (by kernel_rfl) (Inv.start0 hok (by simp)) ⟨?_, ?_, ?_, trivial⟩ ?_
  · exact s_new 0 rfl rfl rfl rfl rfl hok fun L v w D I => give_box c0.toList rfl rfl ⟨trivial, rfl, _, rfl, hc0⟩
  · exact s_new 1 rfl rfl rfl rfl rfl hok fun L v w D I => give_box c1.toList rfl rfl ⟨trivial, rfl, _, rfl, hc1⟩
  · exact s_new 2 rfl rfl rfl rfl rfl hok fun L v w D I => al_W rfl fun c h => ⟨trivial, rfl, c, rfl, sz_mk c h⟩
  intro L v1 W1 hL hI
  obtain ⟨bu, hb_bu, lo_bu, R_bu⟩ := hI.made0 0 rfl (hL 0 (by decide))
  obtain ⟨bv, hb_bv, lo_bv, R_bv⟩ := hI.made0 1 rfl (hL 1 (by decide))
  obtain ⟨r, hb_r, lo_r, R_r⟩ := hI.made0 2 rfl (hL 2 (by decide))
  have ne_bu_r := hI.two 0 2 rfl rfl rfl rfl rfl (hL 0 (by decide)) (hL 2 (by decide)) hb_bu hb_r
  have ne_bv_r := hI.two 1 2 rfl rfl rfl rfl rfl (hL 1 (by decide)) (hL 2 (by decide)) hb_bv hb_r
  have bs_r := Nat.le_trans hx.size lo_r
  have lt_r := R_r.lt
  replace hx := hx.trans hI.keep.to_ext
  clear hI hL hok L
  simp only [putP, Act.put, List.setIfInBounds_toArray, List.set_cons_zero, List.set_cons_succ, hb_bu, hb_bv, hb_r]
  go_upto_region 1 with fail
  have hok : TrsOk [] W1.heap.size ([(tk (some 15) 0 78 (some 16) (sz 4) (fun u => isE u (((Y1) - (X1)) * ((Y2) - (X2)))))] : List Trk) := ⟨by simp [tk], by simp [tk], by simp [tk], by simp [tk]⟩
  refine wp_region_plan (Inv [] (fun j u => match j with | 0 => u = .pointer (some ⟨bu, 0, none⟩) | 1 => u = .pointer (some ⟨bu, 4, none⟩) | 2 => isE u (Y1) | 3 => u = .pointer (some ⟨bu, 0, none⟩) | 4 => u = .pointer (some ⟨bu, 0, none⟩) | 5 => isE u (X1) | 6 => isE u ((Y1) - (X1)) | 7 => u = .pointer (some ⟨bv, 0, none⟩) | 8 => u = .pointer (some ⟨bv, 4, none⟩) | 9 => isE u (Y2) | 10 => u = .pointer (some ⟨bv, 0, none⟩) | 11 => u = .pointer (some ⟨bv, 0, none⟩) | 12 => isE u (X2) | 13 => isE u ((Y2) - (X2)) | 14 => isE u (((Y1) - (X1)) * ((Y2) - (X2))) | _ => True) [(tk (some 15) 0 78 (some 16) (sz 4) (fun u => isE u (((Y1) - (X1)) * ((Y2) - (X2)))))] W1) plan_83_1 [(13, 0), (14, 1), (15, 2), (16, 3), (17, 4), (18, 5), (19, 6), (20, 7), (21, 8), (22, 9), (23, 10), (24, 11), (25, 12), (26, 13), (27, 14), (5, 15)] 84 (by kernel_rfl) rfl (by kernel_rfl) (Inv.start hok (by simp)) ⟨?_, ?_, ?_, ?_, ?_, ?_, ?_, ?_, ?_, ?_, ?_, ?_, ?_, ?_, ?_, ?_, ?_, trivial⟩ ?_
  · exact s_val rfl rfl fun L v w D N I => give_fa rfl rfl fW0 ⟨rfl, Ext.refl _⟩
  · exact s_val rfl rfl fun L v w D N I => give_fa rfl (I.val 0 (D 0 rfl)) fFL1 ⟨rfl, Ext.refl _⟩
  · exact s_val rfl rfl fun L v w D N I => ld_Wy (R_bu.keep0 I.keep) _ rfl (I.val 1 (D 1 rfl)) ldK
  · exact s_val rfl rfl fun L v w D N I => give_fa rfl rfl fW0 ⟨rfl, Ext.refl _⟩
  · exact s_val rfl rfl fun L v w D N I => give_fa rfl (I.val 3 (D 3 rfl)) fFL0 ⟨rfl, Ext.refl _⟩
  · exact s_val rfl rfl fun L v w D N I => ld_Wx (R_bu.keep0 I.keep) _ rfl (I.val 4 (D 4 rfl)) ldK
  · exact s_val rfl rfl fun L v w D N I => gSub _ _ rfl rfl (esub (I.val 2 (D 2 rfl)) (I.val 5 (D 5 rfl)) w)
  · exact s_val rfl rfl fun L v w D N I => give_fa rfl rfl fW0 ⟨rfl, Ext.refl _⟩
  · exact s_val rfl rfl fun L v w D N I => give_fa rfl (I.val 7 (D 7 rfl)) fFL1 ⟨rfl, Ext.refl _⟩
  · exact s_val rfl rfl fun L v w D N I => ld_Wy (R_bv.keep0 I.keep) _ rfl (I.val 8 (D 8 rfl)) ldK
  · exact s_val rfl rfl fun L v w D N I => give_fa rfl rfl fW0 ⟨rfl, Ext.refl _⟩
  · exact s_val rfl rfl fun L v w D N I => give_fa rfl (I.val 10 (D 10 rfl)) fFL0 ⟨rfl, Ext.refl _⟩
  · exact s_val rfl rfl fun L v w D N I => ld_Wx (R_bv.keep0 I.keep) _ rfl (I.val 11 (D 11 rfl)) ldK
  · exact s_val rfl rfl fun L v w D N I => gSub _ _ rfl rfl (esub (I.val 9 (D 9 rfl)) (I.val 12 (D 12 rfl)) w)
  · exact s_val rfl rfl fun L v w D N I => gMul _ _ rfl rfl (emul (I.val 6 (D 6 rfl)) (I.val 13 (D 13 rfl)) w)
  · exact s_new 0 rfl rfl rfl rfl rfl hok fun L v w D I => al_E rfl fun c h => ⟨trivial, rfl, c, rfl, sz_mk c h⟩
  · exact s_lay 0 15 rfl rfl rfl rfl rfl rfl hok fun L v w D I n cs hb hR ho => st_E hR (sz_len ho) _ _ rfl hb (I.val 14 (D 14 rfl)) fun _ c a b k => ⟨trivial, k, c, a, b⟩
  intro L v2 W2 hL hI
  obtain ⟨n5, hb_n5, lo_n5, R_n5⟩ := hI.made 0 rfl (hL 15 (by decide)) (hL 16 (by decide))
  replace R_bu := R_bu.keep0 hI.keep
  replace R_bv := R_bv.keep0 hI.keep
  replace R_r := R_r.keep0 hI.keep
  have ne_r_n5 := Nat.ne_of_lt (Nat.lt_of_lt_of_le lt_r lo_n5)
  replace lt_r := Nat.lt_of_lt_of_le lt_r hI.keep.size
  replace hx := hx.trans hI.keep.to_ext
  clear hI hL hok L
  obtain ⟨a, q_a⟩ : ∃ x, x = ((Y1) - (X1)) * ((Y2) - (X2)) := ⟨_, rfl⟩
  rw [← q_a] at R_n5
  replace q_a := Lib.hid q_a
  simp only [putP, Act.put, List.setIfInBounds_toArray, List.set_cons_zero, List.set_cons_succ, hb_n5]
  go_upto_region 2 with fail
  have hok : TrsOk [] W2.heap.size ([(tk (some 15) 0 78 (some 16) (sz 4) (fun u => isE u (((Y1) + (X1)) * ((Y2) + (X2)))))] : List Trk) := ⟨by simp [tk], by simp [tk], by simp [tk], by simp [tk]⟩
  refine wp_region_plan (Inv [] (fun j u => match j with | 0 => u = .pointer (some ⟨bu, 0, none⟩) | 1 => u = .pointer (some ⟨bu, 4, none⟩) | 2 => isE u (Y1) | 3 => u = .pointer (some ⟨bu, 0, none⟩) | 4 => u = .pointer (some ⟨bu, 0, none⟩) | 5 => isE u (X1) | 6 => isE u ((Y1) + (X1)) | 7 => u = .pointer (some ⟨bv, 0, none⟩) | 8 => u = .pointer (some ⟨bv, 4, none⟩) | 9 => isE u (Y2) | 10 => u = .pointer (some ⟨bv, 0, none⟩) | 11 => u = .pointer (some ⟨bv, 0, none⟩) | 12 => isE u (X2) | 13 => isE u ((Y2) + (X2)) | 14 => isE u (((Y1) + (X1)) * ((Y2) + (X2))) | _ => True) [(tk (some 15) 0 78 (some 16) (sz 4) (fun u => isE u (((Y1) + (X1)) * ((Y2) + (X2)))))] W2) plan_83_2 [(28, 0), (29, 1), (30, 2), (31, 3), (32, 4), (33, 5), (34, 6), (35, 7), (36, 8), (37, 9), (38, 10), (39, 11), (40, 12), (41, 13), (42, 14), (6, 15)] 84 (by kernel_rfl) rfl (by kernel_rfl) (Inv.start hok (by simp)) ⟨?_, ?_, ?_, ?_, ?_, ?_, ?_, ?_, ?_, ?_, ?_, ?_, ?_, ?_, ?_, ?_, ?_, trivial⟩ ?_
  · exact s_val rfl rfl fun L v w D N I => give_fa rfl rfl fW0 ⟨rfl, Ext.refl _⟩
  · exact s_val rfl rfl fun L v w D N I => give_fa rfl (I.val 0 (D 0 rfl)) fFL1 ⟨rfl, Ext.refl _⟩
  · exact s_val rfl rfl fun L v w D N I => ld_Wy (R_bu.keep0 I.keep) _ rfl (I.val 1 (D 1 rfl)) ldK
  · exact s_val rfl rfl fun L v w D N I => give_fa rfl rfl fW0 ⟨rfl, Ext.refl _⟩
  · exact s_val rfl rfl fun L v w D N I => give_fa rfl (I.val 3 (D 3 rfl)) fFL0 ⟨rfl, Ext.refl _⟩
  · exact s_val rfl rfl fun L v w D N I => ld_Wx (R_bu.keep0 I.keep) _ rfl (I.val 4 (D 4 rfl)) ldK
  · exact s_val rfl rfl fun L v w D N I => gAdd _ _ rfl rfl (eadd (I.val 2 (D 2 rfl)) (I.val 5 (D 5 rfl)) w)
  · exact s_val rfl rfl fun L v w D N I => give_fa rfl rfl fW0 ⟨rfl, Ext.refl _⟩
  · exact s_val rfl rfl fun L v w D N I => give_fa rfl (I.val 7 (D 7 rfl)) fFL1 ⟨rfl, Ext.refl _⟩
  · exact s_val rfl rfl fun L v w D N I => ld_Wy (R_bv.keep0 I.keep) _ rfl (I.val 8 (D 8 rfl)) ldK
  · exact s_val rfl rfl fun L v w D N I => give_fa rfl rfl fW0 ⟨rfl, Ext.refl _⟩
  · exact s_val rfl rfl fun L v w D N I => give_fa rfl (I.val 10 (D 10 rfl)) fFL0 ⟨rfl, Ext.refl _⟩
  · exact s_val rfl rfl fun L v w D N I => ld_Wx (R_bv.keep0 I.keep) _ rfl (I.val 11 (D 11 rfl)) ldK
  · exact s_val rfl rfl fun L v w D N I => gAdd _ _ rfl rfl (eadd (I.val 9 (D 9 rfl)) (I.val 12 (D 12 rfl)) w)
  · exact s_val rfl rfl fun L v w D N I => gMul _ _ rfl rfl (emul (I.val 6 (D 6 rfl)) (I.val 13 (D 13 rfl)) w)
  · exact s_new 0 rfl rfl rfl rfl rfl hok fun L v w D I => al_E rfl fun c h => ⟨trivial, rfl, c, rfl, sz_mk c h⟩
  · exact s_lay 0 15 rfl rfl rfl rfl rfl rfl hok fun L v w D I n cs hb hR ho => st_E hR (sz_len ho) _ _ rfl hb (I.val 14 (D 14 rfl)) fun _ c a b k => ⟨trivial, k, c, a, b⟩
  intro L v3 W3 hL hI
  obtain ⟨n6, hb_n6, lo_n6, R_n6⟩ := hI.made 0 rfl (hL 15 (by decide)) (hL 16 (by decide))
  replace R_bu := R_bu.keep0 hI.keep
  replace R_bv := R_bv.keep0 hI.keep
  replace R_r := R_r.keep0 hI.keep
  replace R_n5 := R_n5.keep0 hI.keep
  have ne_r_n6 := Nat.ne_of_lt (Nat.lt_of_lt_of_le lt_r lo_n6)
  replace lt_r := Nat.lt_of_lt_of_le lt_r hI.keep.size
  replace hx := hx.trans hI.keep.to_ext
  clear hI hL hok L
  obtain ⟨b, q_b⟩ : ∃ x, x = ((Y1) + (X1)) * ((Y2) + (X2)) := ⟨_, rfl⟩
  rw [← q_b] at R_n6
  replace q_b := Lib.hid q_b
  simp only [putP, Act.put, List.setIfInBounds_toArray, List.set_cons_zero, List.set_cons_succ, hb_n6]
  go_upto_region 3 with fail
  have hok : TrsOk [] W3.heap.size ([(tk (some 7) 0 78 (some 8) (sz 4) (fun u => isE u (((T1) * (T2)) * (C7.d + C7.d))))] : List Trk) := ⟨by simp [tk], by simp [tk], by simp [tk], by simp [tk]⟩
  refine wp_region_text (Inv [] (fun j u => match j with | 0 => u = .pointer (some ⟨bu, 12, none⟩) | 1 => isE u (T1) | 2 => u = .pointer (some ⟨bv, 12, none⟩) | 3 => isE u (T2) | 4 => isE u ((T1) * (T2)) | 5 => isE u (C7.d + C7.d) | 6 => isE u (((T1) * (T2)) * (C7.d + C7.d)) | _ => True) [(tk (some 7) 0 78 (some 8) (sz 4) (fun u => isE u (((T1) * (T2)) * (C7.d + C7.d))))] W3) plan_83_3 [(43, 0), (44, 1), (45, 2), (46, 3), (47, 4), (48, 5), (49, 6), (7, 7)] 84 rfl (by kernel_rfl) (Inv.start0 hok (by simp)) ⟨?_, ?_, ?_, ?_, ?_, ?_, ?_, ?_, ?_, trivial⟩ ?_
  · exact s_val rfl rfl fun L v w D N I => give_fa rfl rfl fW2 ⟨rfl, Ext.refl _⟩
  · exact s_val rfl rfl fun L v w D N I => ld_Wt (R_bu.keep0 I.keep) _ rfl (I.val 0 (D 0 rfl)) ldK
  · exact s_val rfl rfl fun L v w D N I => give_fa rfl rfl fW2 ⟨rfl, Ext.refl _⟩
  · exact s_val rfl rfl fun L v w D N I => ld_Wt (R_bv.keep0 I.keep) _ rfl (I.val 2 (D 2 rfl)) ldK
  · exact s_val rfl rfl fun L v w D N I => gMul _ _ rfl rfl (emul (I.val 1 (D 1 rfl)) (I.val 3 (D 3 rfl)) w)
  · exact s_val rfl rfl fun L v w D N I => gTw _ _ rfl rfl (twice_any w)
  · exact s_val rfl rfl fun L v w D N I => gMul _ _ rfl rfl (emul (I.val 4 (D 4 rfl)) (I.val 5 (D 5 rfl)) w)
  · exact s_new 0 rfl rfl rfl rfl rfl hok fun L v w D I => al_E rfl fun c h => ⟨trivial, rfl, c, rfl, sz_mk c h⟩
  · exact s_lay 0 7 rfl rfl rfl rfl rfl rfl hok fun L v w D I n cs hb hR ho => st_E hR (sz_len ho) _ _ rfl hb (I.val 6 (D 6 rfl)) fun _ c a b k => ⟨trivial, k, c, a, b⟩
  intro L v4 W4 hL hI
  obtain ⟨n7, hb_n7, lo_n7, R_n7⟩ := hI.made 0 rfl (hL 7 (by decide)) (hL 8 (by decide))
  replace R_bu := R_bu.keep0 hI.keep
  replace R_bv := R_bv.keep0 hI.keep
  replace R_r := R_r.keep0 hI.keep
  replace R_n5 := R_n5.keep0 hI.keep
  replace R_n6 := R_n6.keep0 hI.keep
  have ne_r_n7 := Nat.ne_of_lt (Nat.lt_of_lt_of_le lt_r lo_n7)
  replace lt_r := Nat.lt_of_lt_of_le lt_r hI.keep.size
  replace hx := hx.trans hI.keep.to_ext
  clear hI hL hok L
  obtain ⟨c, q_c⟩ : ∃ x, x = ((T1) * (T2)) * (C7.d + C7.d) := ⟨_, rfl⟩
  rw [← q_c] at R_n7
  replace q_c := Lib.hid q_c
  simp only [putP, Act.put, List.setIfInBounds_toArray, List.set_cons_zero, List.set_cons_succ, hb_n7]
  go_upto_region 4 with fail
  have hok : TrsOk [] W4.heap.size ([(tk (some 5) 0 78 (some 6) (sz 4) (fun u => isE u ((Z1) * (Z2))))] : List Trk) := ⟨by simp [tk], by simp [tk], by simp [tk], by simp [tk]⟩
  refine wp_region_text (Inv [] (fun j u => match j with | 0 => u = .pointer (some ⟨bu, 8, none⟩) | 1 => isE u (Z1) | 2 => u = .pointer (some ⟨bv, 8, none⟩) | 3 => isE u (Z2) | 4 => isE u ((Z1) * (Z2)) | _ => True) [(tk (some 5) 0 78 (some 6) (sz 4) (fun u => isE u ((Z1) * (Z2))))] W4) plan_83_4 [(50, 0), (51, 1), (52, 2), (53, 3), (54, 4), (8, 5)] 84 rfl (by kernel_rfl) (Inv.start0 hok (by simp)) ⟨?_, ?_, ?_, ?_, ?_, ?_, ?_, trivial⟩ ?_
  · exact s_val rfl rfl fun L v w D N I => give_fa rfl rfl fW1 ⟨rfl, Ext.refl _⟩
  · exact s_val rfl rfl fun L v w D N I => ld_Wz (R_bu.keep0 I.keep) _ rfl (I.val 0 (D 0 rfl)) ldK
  · exact s_val rfl rfl fun L v w D N I => give_fa rfl rfl fW1 ⟨rfl, Ext.refl _⟩
  · exact s_val rfl rfl fun L v w D N I => ld_Wz (R_bv.keep0 I.keep) _ rfl (I.val 2 (D 2 rfl)) ldK
  · exact s_val rfl rfl fun L v w D N I => gMul _ _ rfl rfl (emul (I.val 1 (D 1 rfl)) (I.val 3 (D 3 rfl)) w)
  · exact s_new 0 rfl rfl rfl rfl rfl hok fun L v w D I => al_E rfl fun c h => ⟨trivial, rfl, c, rfl, sz_mk c h⟩
  · exact s_lay 0 5 rfl rfl rfl rfl rfl rfl hok fun L v w D I n cs hb hR ho => st_E hR (sz_len ho) _ _ rfl hb (I.val 4 (D 4 rfl)) fun _ c a b k => ⟨trivial, k, c, a, b⟩
  intro L v5 W5 hL hI
  obtain ⟨n8, hb_n8, lo_n8, R_n8⟩ := hI.made 0 rfl (hL 5 (by decide)) (hL 6 (by decide))
  have lt_bu := R_bu.lt
  have lt_bv := R_bv.lt
  have lt_n5 := R_n5.lt
  have lt_n6 := R_n6.lt
  have lt_n7 := R_n7.lt
  replace R_bu := R_bu.keep0 hI.keep
  replace R_bv := R_bv.keep0 hI.keep
  replace R_r := R_r.keep0 hI.keep
  replace R_n5 := R_n5.keep0 hI.keep
  replace R_n6 := R_n6.keep0 hI.keep
  replace R_n7 := R_n7.keep0 hI.keep
  have ne_bu_n8 := Nat.ne_of_lt (Nat.lt_of_lt_of_le lt_bu lo_n8)
  have ne_bv_n8 := Nat.ne_of_lt (Nat.lt_of_lt_of_le lt_bv lo_n8)
  have ne_r_n8 := Nat.ne_of_lt (Nat.lt_of_lt_of_le lt_r lo_n8)
  have ne_n5_n8 := Nat.ne_of_lt (Nat.lt_of_lt_of_le lt_n5 lo_n8)
  have ne_n6_n8 := Nat.ne_of_lt (Nat.lt_of_lt_of_le lt_n6 lo_n8)
  have ne_n7_n8 := Nat.ne_of_lt (Nat.lt_of_lt_of_le lt_n7 lo_n8)
  replace lt_r := Nat.lt_of_lt_of_le lt_r hI.keep.size
  have bs_n8 := Nat.le_trans hx.size lo_n8
  have lt_n8 := R_n8.lt
  replace hx := hx.trans hI.keep.to_ext
  clear hI hL hok L
  obtain ⟨z0, q_z0⟩ : ∃ x, x = (Z1) * (Z2) := ⟨_, rfl⟩
  rw [← q_z0] at R_n8
  replace q_z0 := Lib.hid q_z0
  simp only [putP, Act.put, List.setIfInBounds_toArray, List.set_cons_zero, List.set_cons_succ, hb_n8]
  go_upto_region 5 with fail
  have hok : TrsOk [n8] W5.heap.size ([(tk (none) n8 78 (some 3) (fun u => isE u (z0)) (fun u => isE u ((z0) + (z0))))] : List Trk) := ⟨by simp [tk, R_n8.lt], by simp [tk], by simp [tk], by simp [tk]⟩
  refine wp_region_text (Inv [n8] (fun j u => match j with | 0 => isE u (z0) | 1 => isE u (z0) | 2 => isE u ((z0) + (z0)) | _ => True) [(tk (none) n8 78 (some 3) (fun u => isE u (z0)) (fun u => isE u ((z0) + (z0))))] W5) plan_83_5 [(55, 0), (56, 1), (57, 2)] 84 rfl (by kernel_rfl) (Inv.start0 hok (by
      simp only [List.forall_mem_cons, List.not_mem_nil, false_implies, implies_true, and_true]
      exact fun _ => R_n8)) ⟨?_, ?_, ?_, ?_, trivial⟩ ?_
  · exact s_val rfl rfl fun L v w D N I => ld_E (I.old 0 rfl (N 3 rfl)) _ rfl rfl ldK
  · exact s_val rfl rfl fun L v w D N I => ld_E (I.old 0 rfl (N 3 rfl)) _ rfl rfl ldK
  · exact s_val rfl rfl fun L v w D N I => gAdd _ _ rfl rfl (eadd (I.val 0 (D 0 rfl)) (I.val 1 (D 1 rfl)) w)
  · exact s_put 0 rfl rfl rfl rfl rfl hok fun L v w D I cs hR ho => st_E hR (isE_len ho) _ _ rfl rfl (I.val 2 (D 2 rfl)) fun _ c a b k => ⟨trivial, k, c, a, b⟩
  intro L v6 W6 hL hI
  replace R_bu := R_bu.keep1 hI.keep ne_bu_n8
  replace R_bv := R_bv.keep1 hI.keep ne_bv_n8
  replace R_r := R_r.keep1 hI.keep ne_r_n8
  replace R_n5 := R_n5.keep1 hI.keep ne_n5_n8
  replace R_n6 := R_n6.keep1 hI.keep ne_n6_n8
  replace R_n7 := R_n7.keep1 hI.keep ne_n7_n8
  replace R_n8 := hI.new 0 rfl (hL 3 (by decide))
  replace lt_r := Nat.lt_of_lt_of_le lt_r hI.keep.size
  replace lt_n8 := Nat.lt_of_lt_of_le lt_n8 hI.keep.size
  replace hx := hx.keep1 hI.keep bs_n8
  clear hI hL hok L
  obtain ⟨z, q_z⟩ : ∃ x, x = (z0) + (z0) := ⟨_, rfl⟩
  rw [← q_z] at R_n8
  replace q_z := Lib.hid q_z
  simp only [putP, Act.put, List.setIfInBounds_toArray, List.set_cons_zero, List.set_cons_succ]
  go_upto_region 6 with fail
  have hok : TrsOk [] W6.heap.size ([(tk (some 12) 0 78 (some 16) (sz 4) (fun u => isE u ((b) - (a)))), (tk (some 13) 0 78 (some 17) (sz 4) (fun u => isE u ((z) - (c)))), (tk (some 14) 0 78 (some 18) (sz 4) (fun u => isE u ((z) + (c)))), (tk (some 15) 0 78 (some 19) (sz 4) (fun u => isE u ((b) + (a))))] : List Trk) := ⟨by simp [tk], by simp [tk], by simp [tk], by simp [tk]⟩
  refine wp_region_plan (Inv [] (fun j u => match j with | 0 => isE u (b) | 1 => isE u (a) | 2 => isE u ((b) - (a)) | 3 => isE u (z) | 4 => isE u (c) | 5 => isE u ((z) - (c)) | 6 => isE u (z) | 7 => isE u (c) | 8 => isE u ((z) + (c)) | 9 => isE u (b) | 10 => isE u (a) | 11 => isE u ((b) + (a)) | _ => True) [(tk (some 12) 0 78 (some 16) (sz 4) (fun u => isE u ((b) - (a)))), (tk (some 13) 0 78 (some 17) (sz 4) (fun u => isE u ((z) - (c)))), (tk (some 14) 0 78 (some 18) (sz 4) (fun u => isE u ((z) + (c)))), (tk (some 15) 0 78 (some 19) (sz 4) (fun u => isE u ((b) + (a))))] W6) plan_83_6 [(58, 0), (59, 1), (60, 2), (61, 3), (62, 4), (63, 5), (64, 6), (65, 7), (66, 8), (67, 9), (68, 10), (69, 11), (9, 12), (10, 13), (11, 14), (12, 15)] 84 (by kernel_rfl) rfl (by kernel_rfl) (Inv.start hok (by simp)) ⟨?_, ?_, ?_, ?_, ?_, ?_, ?_, ?_, ?_, ?_, ?_, ?_, ?_, ?_, ?_, ?_, ?_, ?_, ?_, ?_, trivial⟩ ?_
  · exact s_val rfl rfl fun L v w D N I => ld_E (R_n6.keep0 I.keep) _ rfl rfl ldK
  · exact s_val rfl rfl fun L v w D N I => ld_E (R_n5.keep0 I.keep) _ rfl rfl ldK
  · exact s_val rfl rfl fun L v w D N I => gSub _ _ rfl rfl (esub (I.val 0 (D 0 rfl)) (I.val 1 (D 1 rfl)) w)
  · exact s_val rfl rfl fun L v w D N I => ld_E (R_n8.keep0 I.keep) _ rfl rfl ldK
  · exact s_val rfl rfl fun L v w D N I => ld_E (R_n7.keep0 I.keep) _ rfl rfl ldK
  · exact s_val rfl rfl fun L v w D N I => gSub _ _ rfl rfl (esub (I.val 3 (D 3 rfl)) (I.val 4 (D 4 rfl)) w)
  · exact s_val rfl rfl fun L v w D N I => ld_E (R_n8.keep0 I.keep) _ rfl rfl ldK
  · exact s_val rfl rfl fun L v w D N I => ld_E (R_n7.keep0 I.keep) _ rfl rfl ldK
  · exact s_val rfl rfl fun L v w D N I => gAdd _ _ rfl rfl (eadd (I.val 6 (D 6 rfl)) (I.val 7 (D 7 rfl)) w)
  · exact s_val rfl rfl fun L v w D N I => ld_E (R_n6.keep0 I.keep) _ rfl rfl ldK
  · exact s_val rfl rfl fun L v w D N I => ld_E (R_n5.keep0 I.keep) _ rfl rfl ldK
  · exact s_val rfl rfl fun L v w D N I => gAdd _ _ rfl rfl (eadd (I.val 9 (D 9 rfl)) (I.val 10 (D 10 rfl)) w)
  · exact s_new 0 rfl rfl rfl rfl rfl hok fun L v w D I => al_E rfl fun c h => ⟨trivial, rfl, c, rfl, sz_mk c h⟩
  · exact s_new 1 rfl rfl rfl rfl rfl hok fun L v w D I => al_E rfl fun c h => ⟨trivial, rfl, c, rfl, sz_mk c h⟩
  · exact s_new 2 rfl rfl rfl rfl rfl hok fun L v w D I => al_E rfl fun c h => ⟨trivial, rfl, c, rfl, sz_mk c h⟩
  · exact s_new 3 rfl rfl rfl rfl rfl hok fun L v w D I => al_E rfl fun c h => ⟨trivial, rfl, c, rfl, sz_mk c h⟩
  · exact s_lay 0 12 rfl rfl rfl rfl rfl rfl hok fun L v w D I n cs hb hR ho => st_E hR (sz_len ho) _ _ rfl hb (I.val 2 (D 2 rfl)) fun _ c a b k => ⟨trivial, k, c, a, b⟩
  · exact s_lay 1 13 rfl rfl rfl rfl rfl rfl hok fun L v w D I n cs hb hR ho => st_E hR (sz_len ho) _ _ rfl hb (I.val 5 (D 5 rfl)) fun _ c a b k => ⟨trivial, k, c, a, b⟩
  · exact s_lay 2 14 rfl rfl rfl rfl rfl rfl hok fun L v w D I n cs hb hR ho => st_E hR (sz_len ho) _ _ rfl hb (I.val 8 (D 8 rfl)) fun _ c a b k => ⟨trivial, k, c, a, b⟩
  · exact s_lay 3 15 rfl rfl rfl rfl rfl rfl hok fun L v w D I n cs hb hR ho => st_E hR (sz_len ho) _ _ rfl hb (I.val 11 (D 11 rfl)) fun _ c a b k => ⟨trivial, k, c, a, b⟩
  intro L v7 W7 hL hI
  obtain ⟨n9, hb_n9, lo_n9, R_n9⟩ := hI.made 0 rfl (hL 12 (by decide)) (hL 16 (by decide))
  obtain ⟨n10, hb_n10, lo_n10, R_n10⟩ := hI.made 1 rfl (hL 13 (by decide)) (hL 17 (by decide))
  obtain ⟨n11, hb_n11, lo_n11, R_n11⟩ := hI.made 2 rfl (hL 14 (by decide)) (hL 18 (by decide))
  obtain ⟨n12, hb_n12, lo_n12, R_n12⟩ := hI.made 3 rfl (hL 15 (by decide)) (hL 19 (by decide))
  replace R_bu := R_bu.keep0 hI.keep
  replace R_bv := R_bv.keep0 hI.keep
  replace R_r := R_r.keep0 hI.keep
  replace R_n5 := R_n5.keep0 hI.keep
  replace R_n6 := R_n6.keep0 hI.keep
  replace R_n7 := R_n7.keep0 hI.keep
  replace R_n8 := R_n8.keep0 hI.keep
  have ne_r_n9 := Nat.ne_of_lt (Nat.lt_of_lt_of_le lt_r lo_n9)
  have ne_n8_n9 := Nat.ne_of_lt (Nat.lt_of_lt_of_le lt_n8 lo_n9)
  have ne_r_n10 := Nat.ne_of_lt (Nat.lt_of_lt_of_le lt_r lo_n10)
  have ne_n8_n10 := Nat.ne_of_lt (Nat.lt_of_lt_of_le lt_n8 lo_n10)
  have ne_r_n11 := Nat.ne_of_lt (Nat.lt_of_lt_of_le lt_r lo_n11)
  have ne_n8_n11 := Nat.ne_of_lt (Nat.lt_of_lt_of_le lt_n8 lo_n11)
  have ne_r_n12 := Nat.ne_of_lt (Nat.lt_of_lt_of_le lt_r lo_n12)
  have ne_n8_n12 := Nat.ne_of_lt (Nat.lt_of_lt_of_le lt_n8 lo_n12)
  replace lt_r := Nat.lt_of_lt_of_le lt_r hI.keep.size
  replace lt_n8 := Nat.lt_of_lt_of_le lt_n8 hI.keep.size
  replace hx := hx.trans hI.keep.to_ext
  clear hI hL hok L
  obtain ⟨e, q_e⟩ : ∃ x, x = (b) - (a) := ⟨_, rfl⟩
  rw [← q_e] at R_n9
  replace q_e := Lib.hid q_e
  obtain ⟨f, q_f⟩ : ∃ x, x = (z) - (c) := ⟨_, rfl⟩
  rw [← q_f] at R_n10
  replace q_f := Lib.hid q_f
  obtain ⟨g, q_g⟩ : ∃ x, x = (z) + (c) := ⟨_, rfl⟩
  rw [← q_g] at R_n11
  replace q_g := Lib.hid q_g
  obtain ⟨h, q_h⟩ : ∃ x, x = (b) + (a) := ⟨_, rfl⟩
  rw [← q_h] at R_n12
  replace q_h := Lib.hid q_h
  simp only [putP, Act.put, List.setIfInBounds_toArray, List.set_cons_zero, List.set_cons_succ, hb_n9, hb_n10, hb_n11, hb_n12]
  go_upto_region 7 with fail
  have hok : TrsOk [r] W7.heap.size ([(tk (none) r 82 (some 14) (sz 16) (fun u => isW u ((e) * (f)) ((g) * (h)) ((f) * (g)) ((e) * (h))))] : List Trk) := ⟨by simp [tk, R_r.lt], by simp [tk], by simp [tk], by simp [tk]⟩
  refine wp_region_plan (Inv [r] (fun j u => match j with | 0 => isE u (e) | 1 => isE u (f) | 2 => isE u ((e) * (f)) | 3 => isE u (g) | 4 => isE u (h) | 5 => isE u ((g) * (h)) | 6 => isFl u ((e) * (f)) ((g) * (h)) | 7 => isE u (f) | 8 => isE u (g) | 9 => isE u ((f) * (g)) | 10 => isE u (e) | 11 => isE u (h) | 12 => isE u ((e) * (h)) | 13 => isW u ((e) * (f)) ((g) * (h)) ((f) * (g)) ((e) * (h)) | _ => True) [(tk (none) r 82 (some 14) (sz 16) (fun u => isW u ((e) * (f)) ((g) * (h)) ((f) * (g)) ((e) * (h))))] W7) plan_83_7 [(70, 0), (71, 1), (72, 2), (73, 3), (74, 4), (75, 5), (76, 6), (77, 7), (78, 8), (79, 9), (80, 10), (81, 11), (82, 12), (83, 13)] 84 (by kernel_rfl) rfl (by kernel_rfl) (Inv.start hok (by
      simp only [List.forall_mem_cons, List.not_mem_nil, false_implies, implies_true, and_true]
      exact fun _ => R_r)) ⟨?_, ?_, ?_, ?_, ?_, ?_, ?_, ?_, ?_, ?_, ?_, ?_, ?_, ?_, ?_, trivial⟩ ?_
  · exact s_val rfl rfl fun L v w D N I => ld_E (R_n9.keep1 I.keep (Ne.symm ne_r_n9)) _ rfl rfl ldK
  · exact s_val rfl rfl fun L v w D N I => ld_E (R_n10.keep1 I.keep (Ne.symm ne_r_n10)) _ rfl rfl ldK
  · exact s_val rfl rfl fun L v w D N I => gMul _ _ rfl rfl (emul (I.val 0 (D 0 rfl)) (I.val 1 (D 1 rfl)) w)
  · exact s_val rfl rfl fun L v w D N I => ld_E (R_n11.keep1 I.keep (Ne.symm ne_r_n11)) _ rfl rfl ldK
  · exact s_val rfl rfl fun L v w D N I => ld_E (R_n12.keep1 I.keep (Ne.symm ne_r_n12)) _ rfl rfl ldK
  · exact s_val rfl rfl fun L v w D N I => gMul _ _ rfl rfl (emul (I.val 3 (D 3 rfl)) (I.val 4 (D 4 rfl)) w)
  · exact s_val rfl rfl fun L v w D N I => bd_FL _ _ rfl (I.val 2 (D 2 rfl)) (I.val 5 (D 5 rfl)) ldK
  · exact s_val rfl rfl fun L v w D N I => ld_E (R_n10.keep1 I.keep (Ne.symm ne_r_n10)) _ rfl rfl ldK
  · exact s_val rfl rfl fun L v w D N I => ld_E (R_n11.keep1 I.keep (Ne.symm ne_r_n11)) _ rfl rfl ldK
  · exact s_val rfl rfl fun L v w D N I => gMul _ _ rfl rfl (emul (I.val 7 (D 7 rfl)) (I.val 8 (D 8 rfl)) w)
  · exact s_val rfl rfl fun L v w D N I => ld_E (R_n9.keep1 I.keep (Ne.symm ne_r_n9)) _ rfl rfl ldK
  · exact s_val rfl rfl fun L v w D N I => ld_E (R_n12.keep1 I.keep (Ne.symm ne_r_n12)) _ rfl rfl ldK
  · exact s_val rfl rfl fun L v w D N I => gMul _ _ rfl rfl (emul (I.val 10 (D 10 rfl)) (I.val 11 (D 11 rfl)) w)
  · exact s_val rfl rfl fun L v w D N I => bd_W _ _ _ rfl (I.val 6 (D 6 rfl)) (I.val 9 (D 9 rfl)) (I.val 12 (D 12 rfl)) ldK
  · exact s_put 0 rfl rfl rfl rfl rfl hok fun L v w D I cs hR ho => st_W hR (sz_len ho) _ _ rfl rfl (I.val 13 (D 13 rfl)) fun _ c a b k => ⟨trivial, k, c, a, b⟩
  intro L v8 W8 hL hI
  replace R_bu := R_bu.keep1 hI.keep ne_bu_r
  replace R_bv := R_bv.keep1 hI.keep ne_bv_r
  replace R_n5 := R_n5.keep1 hI.keep (Ne.symm ne_r_n5)
  replace R_n6 := R_n6.keep1 hI.keep (Ne.symm ne_r_n6)
  replace R_n7 := R_n7.keep1 hI.keep (Ne.symm ne_r_n7)
  replace R_n8 := R_n8.keep1 hI.keep (Ne.symm ne_r_n8)
  replace R_n9 := R_n9.keep1 hI.keep (Ne.symm ne_r_n9)
  replace R_n10 := R_n10.keep1 hI.keep (Ne.symm ne_r_n10)
  replace R_n11 := R_n11.keep1 hI.keep (Ne.symm ne_r_n11)
  replace R_n12 := R_n12.keep1 hI.keep (Ne.symm ne_r_n12)
  replace R_r := hI.new 0 rfl (hL 14 (by decide))
  replace lt_r := Nat.lt_of_lt_of_le lt_r hI.keep.size
  replace lt_n8 := Nat.lt_of_lt_of_le lt_n8 hI.keep.size
  replace hx := hx.keep1 hI.keep bs_r
  clear hI hL hok L
  simp only [putP, Act.put, List.setIfInBounds_toArray, List.set_cons_zero, List.set_cons_succ]
  go_wp2
  replace q_z := q_z.out
  rw [q_z0.out] at q_z
  obtain ⟨cs, hr, hv⟩ := R_r
  replace hv : isW (Value.agg (List.toArray cs)) ((e) * (f)) ((g) * (h)) ((f) * (g)) ((e) * (h)) := hv
  obtain ⟨fs, hu'⟩ := uWd
  refine bodyPost_ret (results_cell_row (p := 4) (ty := 82) rfl _ _ r 82 _ (0, 0) _ rfl hr hu' rfl (by rw [List.size_toArray, isW_len hv]; exact iWd)) rfl ?_
  exact ⟨_, rfl, ⟨_, _, _, _, hv, Rep.plus hP hQ q_a.out q_b.out q_c.out q_z q_e.out q_f.out q_g.out q_h.out⟩, hx⟩
end Go.Proofs.YtgeihelkkhjjaaaDoor
