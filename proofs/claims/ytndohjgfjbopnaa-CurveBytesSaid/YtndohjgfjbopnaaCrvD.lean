/-
  The curve's points: the sum walked.
-/
import Derived.Test.YtndohjgfjbopnaaCrvC
set_option linter.unusedSimpArgs false
set_option linter.unusedVariables false
namespace Go.Proofs.Ytndohjgfjbopnaa
open Go.RowKit Go.Cv Go.Cv.Pr Go.Cv.Grp
def plan_83_0 : List Plan := [⟨[], []⟩, ⟨[], []⟩, ⟨[], []⟩]
def plan_83_1 : List Plan := [⟨[], []⟩, ⟨[0], [(13, 0)]⟩, ⟨[0, 1], [(14, 1)]⟩, ⟨[], []⟩, ⟨[3], [(16, 3)]⟩, ⟨[3, 4], [(17, 4)]⟩, ⟨[0, 1, 2, 3, 4, 5], [(15, 2), (18, 5)]⟩, ⟨[], []⟩, ⟨[7], [(20, 7)]⟩, ⟨[7, 8], [(21, 8)]⟩, ⟨[], []⟩, ⟨[10], [(23, 10)]⟩, ⟨[10, 11], [(24, 11)]⟩, ⟨[0, 1, 2, 3, 4, 5, 6, 7, 8, 9, 10, 11, 12], [(22, 9), (25, 12)]⟩, ⟨[0, 1, 2, 3, 4, 5, 6, 7, 8, 9, 10, 11, 12, 13], [(19, 6), (26, 13)]⟩, ⟨[], []⟩, ⟨[0, 1, 2, 3, 4, 5, 6, 7, 8, 9, 10, 11, 12, 13, 14, 15], [(27, 14), (5, 15)]⟩]
def plan_83_2 : List Plan := [⟨[], []⟩, ⟨[0], [(28, 0)]⟩, ⟨[0, 1], [(29, 1)]⟩, ⟨[], []⟩, ⟨[3], [(31, 3)]⟩, ⟨[3, 4], [(32, 4)]⟩, ⟨[0, 1, 2, 3, 4, 5], [(30, 2), (33, 5)]⟩, ⟨[], []⟩, ⟨[7], [(35, 7)]⟩, ⟨[7, 8], [(36, 8)]⟩, ⟨[], []⟩, ⟨[10], [(38, 10)]⟩, ⟨[10, 11], [(39, 11)]⟩, ⟨[0, 1, 2, 3, 4, 5, 6, 7, 8, 9, 10, 11, 12], [(37, 9), (40, 12)]⟩, ⟨[0, 1, 2, 3, 4, 5, 6, 7, 8, 9, 10, 11, 12, 13], [(34, 6), (41, 13)]⟩, ⟨[], []⟩, ⟨[0, 1, 2, 3, 4, 5, 6, 7, 8, 9, 10, 11, 12, 13, 14, 15], [(42, 14), (6, 15)]⟩]
def plan_83_3 : List Plan := [⟨[], []⟩, ⟨[0], [(43, 0)]⟩, ⟨[], []⟩, ⟨[2], [(45, 2)]⟩, ⟨[0, 1, 2, 3], [(44, 1), (46, 3)]⟩, ⟨[0, 1, 2, 3, 4], []⟩, ⟨[0, 1, 2, 3, 4, 5], [(47, 4), (48, 5)]⟩, ⟨[], []⟩, ⟨[0, 1, 2, 3, 4, 5, 6, 7], [(49, 6), (7, 7)]⟩]
def plan_83_4 : List Plan := [⟨[], []⟩, ⟨[0], [(50, 0)]⟩, ⟨[], []⟩, ⟨[2], [(52, 2)]⟩, ⟨[0, 1, 2, 3], [(51, 1), (53, 3)]⟩, ⟨[], []⟩, ⟨[0, 1, 2, 3, 4, 5], [(54, 4), (8, 5)]⟩]
def plan_83_5 : List Plan := [⟨[], []⟩, ⟨[], []⟩, ⟨[0, 1], [(55, 0), (56, 1)]⟩, ⟨[0, 1, 2], [(57, 2)]⟩]
def plan_83_6 : List Plan := [⟨[], []⟩, ⟨[], []⟩, ⟨[0, 1], [(58, 0), (59, 1)]⟩, ⟨[], []⟩, ⟨[], []⟩, ⟨[0, 1, 2, 3, 4], [(61, 3), (62, 4)]⟩, ⟨[], []⟩, ⟨[], []⟩, ⟨[0, 1, 2, 3, 4, 5, 6, 7], [(64, 6), (65, 7)]⟩, ⟨[], []⟩, ⟨[], []⟩, ⟨[0, 1, 2, 3, 4, 5, 6, 7, 8, 9, 10], [(67, 9), (68, 10)]⟩, ⟨[], []⟩, ⟨[], []⟩, ⟨[], []⟩, ⟨[], []⟩, ⟨[0, 1, 2, 3, 4, 5, 6, 7, 8, 9, 10, 11, 12, 13, 14, 15], [(60, 2), (9, 12)]⟩, ⟨[0, 1, 2, 3, 4, 5, 6, 7, 8, 9, 10, 11, 12, 13, 14, 15, 16], [(63, 5), (10, 13)]⟩, ⟨[0, 1, 2, 3, 4, 5, 6, 7, 8, 9, 10, 11, 12, 13, 14, 15, 16, 17], [(66, 8), (11, 14)]⟩, ⟨[0, 1, 2, 3, 4, 5, 6, 7, 8, 9, 10, 11, 12, 13, 14, 15, 16, 17, 18], [(69, 11), (12, 15)]⟩]
def plan_83_7 : List Plan := [⟨[], []⟩, ⟨[], []⟩, ⟨[0, 1], [(70, 0), (71, 1)]⟩, ⟨[], []⟩, ⟨[], []⟩, ⟨[0, 1, 2, 3, 4], [(73, 3), (74, 4)]⟩, ⟨[0, 1, 2, 3, 4, 5], [(72, 2), (75, 5)]⟩, ⟨[], []⟩, ⟨[], []⟩, ⟨[0, 1, 2, 3, 4, 5, 7, 8], [(77, 7), (78, 8)]⟩, ⟨[], []⟩, ⟨[], []⟩, ⟨[0, 1, 2, 3, 4, 5, 7, 8, 9, 10, 11], [(80, 10), (81, 11)]⟩, ⟨[0, 1, 2, 3, 4, 5, 6, 7, 8, 9, 10, 11, 12], [(76, 6), (79, 9), (82, 12)]⟩, ⟨[0, 1, 2, 3, 4, 5, 6, 7, 8, 9, 10, 11, 12, 13], [(83, 13)]⟩]
set_option maxRecDepth 20000 in
set_option maxHeartbeats 8000000 in
theorem wplus_any {u v : Value} {P Q : P7} (hu : isP u P) (hv : isP v Q) (w : World) :
    Calls Try.prog 83 #[u, v] w fun e w' => ∃ r, e = .returned r ∧ isP r (P.add Q) ∧ Ext w w' := by
  obtain ⟨X1, Y1, Z1, T1, hu, hP⟩ := hu
  obtain ⟨X2, Y2, Z2, T2, hv, hQ⟩ := hv
  obtain ⟨c0, rfl, -, -, hc0⟩ := isW_cells hu
  obtain ⟨c1, rfl, -, -, hc1⟩ := isW_cells hv
  clear hu hv
  go_enter Try.func83, Try.ntmps83
  have hx : Ext w w := Ext.refl w
  go_upto_region 0 with fail
  have hok : TrsOk [] w.heap.size ([⟨some 0, 0, 91, none, fun cs => isW (Value.agg (List.toArray cs)) (X1) (Y1) (Z1) (T1), fun _ => True⟩, ⟨some 1, 0, 91, none, fun cs => isW (Value.agg (List.toArray cs)) (X2) (Y2) (Z2) (T2), fun _ => True⟩, ⟨some 2, 0, 91, none, fun cs => cs.length = 16, fun _ => True⟩] : List Trk) := ⟨by simp, by simp, by simp, by simp⟩
  refine wp_region_text (Inv [] (fun _ _ => True) [⟨some 0, 0, 91, none, fun cs => isW (Value.agg (List.toArray cs)) (X1) (Y1) (Z1) (T1), fun _ => True⟩, ⟨some 1, 0, 91, none, fun cs => isW (Value.agg (List.toArray cs)) (X2) (Y2) (Z2) (T2), fun _ => True⟩, ⟨some 2, 0, 91, none, fun cs => cs.length = 16, fun _ => True⟩] w) plan_83_0 [(2, 0), (3, 1), (4, 2)] 84 rfl (by kernel_rfl) (Inv.start0 hok (by simp)) ⟨?_, ?_, ?_, trivial⟩ ?_
  · intro L v w hL hD hC hI
    refine ⟨fun _ => ?_, fun hw => by cases hw⟩
    refine hI.alloc_step hok hL ⟨some 0, 0, 91, none, fun cs => isW (Value.agg (List.toArray cs)) (X1) (Y1) (Z1) (T1), fun _ => True⟩ (by simp) rfl (by simp) (by intro s hs; cases hs) ?_
    rw [show readsOf plan_83_0 0 = [] from rfl]
    exact ⟨trivial, rfl, c0.toList, by first | rfl | (rw [Array.toArray_toList]; rfl), hc0⟩
  · intro L v w hL hD hC hI
    refine ⟨fun _ => ?_, fun hw => by cases hw⟩
    refine hI.alloc_step hok hL ⟨some 1, 0, 91, none, fun cs => isW (Value.agg (List.toArray cs)) (X2) (Y2) (Z2) (T2), fun _ => True⟩ (by simp) rfl (by simp) (by intro s hs; cases hs) ?_
    rw [show readsOf plan_83_0 1 = [] from rfl]
    exact ⟨trivial, rfl, c1.toList, by first | rfl | (rw [Array.toArray_toList]; rfl), hc1⟩
  · intro L v w hL hD hC hI
    refine ⟨fun _ => ?_, fun hw => by cases hw⟩
    refine hI.alloc_step hok hL ⟨some 2, 0, 91, none, fun cs => cs.length = 16, fun _ => True⟩ (by simp) rfl (by simp) (by intro s hs; cases hs) ?_
    rw [show readsOf plan_83_0 2 = [] from rfl]
    go_simp
    first | exact ⟨rfl, _, rfl, by first | rfl | trivial⟩ | exact ⟨trivial, rfl, _, rfl, by first | rfl | trivial⟩ | exact ⟨rfl, (bcells fun _ => 0).toList, by rw [Array.toArray_toList], by simp⟩ | exact ⟨trivial, rfl, (bcells fun _ => 0).toList, by rw [Array.toArray_toList], by simp⟩
  intro L v1 W1 hL hI
  obtain ⟨bu, cs, hb_bu, lo_bu, hr, hn, ho⟩ := hI.row_made ⟨some 0, 0, 91, none, fun cs => isW (Value.agg (List.toArray cs)) (X1) (Y1) (Z1) (T1), fun _ => True⟩ (by simp) 0 rfl (hL 0 (by decide))
  have R_bu : RV W1 bu 91 (fun u => isW u (X1) (Y1) (Z1) (T1)) := ⟨cs, hr, ho (by intro s hs; cases hs)⟩
  clear hr hn ho
  obtain ⟨bv, cs, hb_bv, lo_bv, hr, hn, ho⟩ := hI.row_made ⟨some 1, 0, 91, none, fun cs => isW (Value.agg (List.toArray cs)) (X2) (Y2) (Z2) (T2), fun _ => True⟩ (by simp) 1 rfl (hL 1 (by decide))
  have R_bv : RV W1 bv 91 (fun u => isW u (X2) (Y2) (Z2) (T2)) := ⟨cs, hr, ho (by intro s hs; cases hs)⟩
  clear hr hn ho
  obtain ⟨r, cs, hb_r, lo_r, hr, hn, ho⟩ := hI.row_made ⟨some 2, 0, 91, none, fun cs => cs.length = 16, fun _ => True⟩ (by simp) 2 rfl (hL 2 (by decide))
  have R_r : RL W1 r 91 16 := ⟨cs, hr, ho (by intro s hs; cases hs)⟩
  clear hr hn ho
  have ne_bu_bv : bu ≠ bv := fun e => hI.apart ⟨some 0, 0, 91, none, fun cs => isW (Value.agg (List.toArray cs)) (X1) (Y1) (Z1) (T1), fun _ => True⟩ (by simp) ⟨some 1, 0, 91, none, fun cs => isW (Value.agg (List.toArray cs)) (X2) (Y2) (Z2) (T2), fun _ => True⟩ (by simp) 0 1 rfl rfl (by decide) (hL 0 (by decide)) (hL 1 (by decide)) (by rw [hb_bu, hb_bv, e])
  have ne_bu_r : bu ≠ r := fun e => hI.apart ⟨some 0, 0, 91, none, fun cs => isW (Value.agg (List.toArray cs)) (X1) (Y1) (Z1) (T1), fun _ => True⟩ (by simp) ⟨some 2, 0, 91, none, fun cs => cs.length = 16, fun _ => True⟩ (by simp) 0 2 rfl rfl (by decide) (hL 0 (by decide)) (hL 2 (by decide)) (by rw [hb_bu, hb_r, e])
  have ne_bv_r : bv ≠ r := fun e => hI.apart ⟨some 1, 0, 91, none, fun cs => isW (Value.agg (List.toArray cs)) (X2) (Y2) (Z2) (T2), fun _ => True⟩ (by simp) ⟨some 2, 0, 91, none, fun cs => cs.length = 16, fun _ => True⟩ (by simp) 1 2 rfl rfl (by decide) (hL 1 (by decide)) (hL 2 (by decide)) (by rw [hb_bv, hb_r, e])
  have hx' : Ext w W1 := hx.trans hI.keep.to_ext
  have lt_bu : bu < W1.heap.size := R_bu.lt
  have bs_bu : w.heap.size ≤ bu := Nat.le_trans hx.size lo_bu
  have lt_bv : bv < W1.heap.size := R_bv.lt
  have bs_bv : w.heap.size ≤ bv := Nat.le_trans hx.size lo_bv
  have lt_r : r < W1.heap.size := R_r.lt
  have bs_r : w.heap.size ≤ r := Nat.le_trans hx.size lo_r
  clear hx hI hL hok L
  have hx := hx'
  clear hx'
  simp only [putP, Act.put, List.setIfInBounds_toArray, List.set_cons_zero, List.set_cons_succ, hb_bu, hb_bv, hb_r]
  go_upto_region 1 with fail
  have hok : TrsOk [] W1.heap.size ([⟨some 15, 0, 73, some 16, fun cs => cs.length = 4, fun cs => isE (Value.agg (List.toArray cs)) (((Y1) - (X1)) * ((Y2) - (X2)))⟩] : List Trk) := ⟨by simp, by simp, by simp, by simp⟩
  refine wp_region_plan (Inv [] (fun j u => match j with | 0 => u = .pointer (some ⟨bu, 0, none⟩) | 1 => u = .pointer (some ⟨bu, 4, none⟩) | 2 => isE u (Y1) | 3 => u = .pointer (some ⟨bu, 0, none⟩) | 4 => u = .pointer (some ⟨bu, 0, none⟩) | 5 => isE u (X1) | 6 => isE u ((Y1) - (X1)) | 7 => u = .pointer (some ⟨bv, 0, none⟩) | 8 => u = .pointer (some ⟨bv, 4, none⟩) | 9 => isE u (Y2) | 10 => u = .pointer (some ⟨bv, 0, none⟩) | 11 => u = .pointer (some ⟨bv, 0, none⟩) | 12 => isE u (X2) | 13 => isE u ((Y2) - (X2)) | 14 => isE u (((Y1) - (X1)) * ((Y2) - (X2))) | _ => True) [⟨some 15, 0, 73, some 16, fun cs => cs.length = 4, fun cs => isE (Value.agg (List.toArray cs)) (((Y1) - (X1)) * ((Y2) - (X2)))⟩] W1) plan_83_1 [(13, 0), (14, 1), (15, 2), (16, 3), (17, 4), (18, 5), (19, 6), (20, 7), (21, 8), (22, 9), (23, 10), (24, 11), (25, 12), (26, 13), (27, 14), (5, 15)] 84 (by kernel_rfl) rfl (by kernel_rfl) (Inv.start hok (by simp)) ⟨?_, ?_, ?_, ?_, ?_, ?_, ?_, ?_, ?_, ?_, ?_, ?_, ?_, ?_, ?_, ?_, ?_, trivial⟩ ?_
  · intro L v w hL hD hC hI
    refine ⟨fun _ => ?_, fun hw => by cases hw⟩
    refine hI.val_step hL (by simp) ?_
    rw [show readsOf plan_83_1 0 = [] from rfl]
    go_simp
    exact ⟨rfl, Ext.refl _⟩
  · intro L v w hL hD hC hI
    refine ⟨fun _ => ?_, fun hw => by cases hw⟩
    have h0 : (v 0) = .pointer (some ⟨bu, 0, none⟩) := hI.val 0 (hD 0 (by decide))
    refine hI.val_step hL (by simp) ?_
    rw [show readsOf plan_83_1 1 = [(13, 0)] from rfl]
    simp only [putP, Act.put, List.setIfInBounds_toArray, List.set_cons_zero, List.set_cons_succ, h0]
    go_simp
    exact ⟨rfl, Ext.refl _⟩
  · intro L v w hL hD hC hI
    refine ⟨fun _ => ?_, fun hw => by cases hw⟩
    have h1 : (v 1) = .pointer (some ⟨bu, 4, none⟩) := hI.val 1 (hD 1 (by decide))
    refine hI.val_step hL (by simp) ?_
    rw [show readsOf plan_83_1 2 = [(14, 1)] from rfl]
    exact ld_Wy (R_bu.keep hI.keep (by simp)) _ rfl h1 fun u hu => ⟨hu, Ext.refl _⟩
  · intro L v w hL hD hC hI
    refine ⟨fun _ => ?_, fun hw => by cases hw⟩
    refine hI.val_step hL (by simp) ?_
    rw [show readsOf plan_83_1 3 = [] from rfl]
    go_simp
    exact ⟨rfl, Ext.refl _⟩
  · intro L v w hL hD hC hI
    refine ⟨fun _ => ?_, fun hw => by cases hw⟩
    have h3 : (v 3) = .pointer (some ⟨bu, 0, none⟩) := hI.val 3 (hD 3 (by decide))
    refine hI.val_step hL (by simp) ?_
    rw [show readsOf plan_83_1 4 = [(16, 3)] from rfl]
    simp only [putP, Act.put, List.setIfInBounds_toArray, List.set_cons_zero, List.set_cons_succ, h3]
    go_simp
    exact ⟨rfl, Ext.refl _⟩
  · intro L v w hL hD hC hI
    refine ⟨fun _ => ?_, fun hw => by cases hw⟩
    have h4 : (v 4) = .pointer (some ⟨bu, 0, none⟩) := hI.val 4 (hD 4 (by decide))
    refine hI.val_step hL (by simp) ?_
    rw [show readsOf plan_83_1 5 = [(17, 4)] from rfl]
    exact ld_Wx (R_bu.keep hI.keep (by simp)) _ rfl h4 fun u hu => ⟨hu, Ext.refl _⟩
  · intro L v w hL hD hC hI
    refine ⟨fun _ => ?_, fun hw => by cases hw⟩
    have h2 : isE (v 2) (Y1) := hI.val 2 (hD 2 (by decide))
    have h5 : isE (v 5) (X1) := hI.val 5 (hD 5 (by decide))
    refine hI.val_step hL (by simp) ?_
    rw [show readsOf plan_83_1 6 = [(15, 2), (18, 5)] from rfl]
    refine give_call _ _ _ _ rfl rfl Try.func69 (by kernel_rfl) (by kernel_rfl) ?_
    refine Calls.mono (esub h2 h5 w) ?_
    rintro e w' ⟨r, rfl, hr, hx⟩
    exact ⟨r, rfl, hr, hx⟩
  · intro L v w hL hD hC hI
    refine ⟨fun _ => ?_, fun hw => by cases hw⟩
    refine hI.val_step hL (by simp) ?_
    rw [show readsOf plan_83_1 7 = [] from rfl]
    go_simp
    exact ⟨rfl, Ext.refl _⟩
  · intro L v w hL hD hC hI
    refine ⟨fun _ => ?_, fun hw => by cases hw⟩
    have h7 : (v 7) = .pointer (some ⟨bv, 0, none⟩) := hI.val 7 (hD 7 (by decide))
    refine hI.val_step hL (by simp) ?_
    rw [show readsOf plan_83_1 8 = [(20, 7)] from rfl]
    simp only [putP, Act.put, List.setIfInBounds_toArray, List.set_cons_zero, List.set_cons_succ, h7]
    go_simp
    exact ⟨rfl, Ext.refl _⟩
  · intro L v w hL hD hC hI
    refine ⟨fun _ => ?_, fun hw => by cases hw⟩
    have h8 : (v 8) = .pointer (some ⟨bv, 4, none⟩) := hI.val 8 (hD 8 (by decide))
    refine hI.val_step hL (by simp) ?_
    rw [show readsOf plan_83_1 9 = [(21, 8)] from rfl]
    exact ld_Wy (R_bv.keep hI.keep (by simp)) _ rfl h8 fun u hu => ⟨hu, Ext.refl _⟩
  · intro L v w hL hD hC hI
    refine ⟨fun _ => ?_, fun hw => by cases hw⟩
    refine hI.val_step hL (by simp) ?_
    rw [show readsOf plan_83_1 10 = [] from rfl]
    go_simp
    exact ⟨rfl, Ext.refl _⟩
  · intro L v w hL hD hC hI
    refine ⟨fun _ => ?_, fun hw => by cases hw⟩
    have h10 : (v 10) = .pointer (some ⟨bv, 0, none⟩) := hI.val 10 (hD 10 (by decide))
    refine hI.val_step hL (by simp) ?_
    rw [show readsOf plan_83_1 11 = [(23, 10)] from rfl]
    simp only [putP, Act.put, List.setIfInBounds_toArray, List.set_cons_zero, List.set_cons_succ, h10]
    go_simp
    exact ⟨rfl, Ext.refl _⟩
  · intro L v w hL hD hC hI
    refine ⟨fun _ => ?_, fun hw => by cases hw⟩
    have h11 : (v 11) = .pointer (some ⟨bv, 0, none⟩) := hI.val 11 (hD 11 (by decide))
    refine hI.val_step hL (by simp) ?_
    rw [show readsOf plan_83_1 12 = [(24, 11)] from rfl]
    exact ld_Wx (R_bv.keep hI.keep (by simp)) _ rfl h11 fun u hu => ⟨hu, Ext.refl _⟩
  · intro L v w hL hD hC hI
    refine ⟨fun _ => ?_, fun hw => by cases hw⟩
    have h9 : isE (v 9) (Y2) := hI.val 9 (hD 9 (by decide))
    have h12 : isE (v 12) (X2) := hI.val 12 (hD 12 (by decide))
    refine hI.val_step hL (by simp) ?_
    rw [show readsOf plan_83_1 13 = [(22, 9), (25, 12)] from rfl]
    refine give_call _ _ _ _ rfl rfl Try.func69 (by kernel_rfl) (by kernel_rfl) ?_
    refine Calls.mono (esub h9 h12 w) ?_
    rintro e w' ⟨r, rfl, hr, hx⟩
    exact ⟨r, rfl, hr, hx⟩
  · intro L v w hL hD hC hI
    refine ⟨fun _ => ?_, fun hw => by cases hw⟩
    have h6 : isE (v 6) ((Y1) - (X1)) := hI.val 6 (hD 6 (by decide))
    have h13 : isE (v 13) ((Y2) - (X2)) := hI.val 13 (hD 13 (by decide))
    refine hI.val_step hL (by simp) ?_
    rw [show readsOf plan_83_1 14 = [(19, 6), (26, 13)] from rfl]
    refine give_call _ _ _ _ rfl rfl Try.func70 (by kernel_rfl) (by kernel_rfl) ?_
    refine Calls.mono (emul h6 h13 w) ?_
    rintro e w' ⟨r, rfl, hr, hx⟩
    exact ⟨r, rfl, hr, hx⟩
  · intro L v w hL hD hC hI
    refine ⟨fun _ => ?_, fun hw => by cases hw⟩
    refine hI.alloc_step hok hL ⟨some 15, 0, 73, some 16, fun cs => cs.length = 4, fun cs => isE (Value.agg (List.toArray cs)) (((Y1) - (X1)) * ((Y2) - (X2)))⟩ (by simp) rfl (by simp) (by intro s hs; cases hs; exact not_yet hC hL (by decide)) ?_
    rw [show readsOf plan_83_1 15 = [] from rfl]
    go_simp
    first | exact ⟨rfl, _, rfl, by first | rfl | trivial⟩ | exact ⟨trivial, rfl, _, rfl, by first | rfl | trivial⟩ | exact ⟨rfl, (bcells fun _ => 0).toList, by rw [Array.toArray_toList], by simp⟩ | exact ⟨trivial, rfl, (bcells fun _ => 0).toList, by rw [Array.toArray_toList], by simp⟩
  · intro L v w hL hD hC hI
    refine ⟨fun _ => ?_, fun hw => by cases hw⟩
    have h14 : isE (v 14) (((Y1) - (X1)) * ((Y2) - (X2))) := hI.val 14 (hD 14 (by decide))
    refine hI.store_step hok hL ⟨some 15, 0, 73, some 16, fun cs => cs.length = 4, fun cs => isE (Value.agg (List.toArray cs)) (((Y1) - (X1)) * ((Y2) - (X2)))⟩ (by simp) rfl (by simp) (by intro k hk; cases hk; exact hD 15 (by decide)) ?_
    intro n cs hb hR hold
    change v 15 = .pointer (some ⟨n, 0, none⟩) at hb
    rw [show readsOf plan_83_1 16 = [(27, 14), (5, 15)] from rfl]
    exact st_E hR hold _ _ rfl hb h14 fun w' cs' hr he hk => ⟨trivial, hk, cs', hr, he⟩
  intro L v2 W2 hL hI
  obtain ⟨n5, cs, hb_n5, lo_n5, hr, hn, ho⟩ := hI.row_made ⟨some 15, 0, 73, some 16, fun cs => cs.length = 4, fun cs => isE (Value.agg (List.toArray cs)) (((Y1) - (X1)) * ((Y2) - (X2)))⟩ (by simp) 15 rfl (hL 15 (by decide))
  have R_n5 : RV W2 n5 73 (fun u => isE u (((Y1) - (X1)) * ((Y2) - (X2)))) := ⟨cs, hr, hn 16 rfl (hL 16 (by decide))⟩
  clear hr hn ho
  replace R_bu := R_bu.keep hI.keep (by simp)
  replace R_bv := R_bv.keep hI.keep (by simp)
  replace R_r := R_r.keep hI.keep (by simp)
  have ne_bu_n5 : bu ≠ n5 := Nat.ne_of_lt (Nat.lt_of_lt_of_le lt_bu lo_n5)
  have ne_bv_n5 : bv ≠ n5 := Nat.ne_of_lt (Nat.lt_of_lt_of_le lt_bv lo_n5)
  have ne_r_n5 : r ≠ n5 := Nat.ne_of_lt (Nat.lt_of_lt_of_le lt_r lo_n5)
  replace lt_bu := Nat.lt_of_lt_of_le lt_bu hI.keep.size
  replace lt_bv := Nat.lt_of_lt_of_le lt_bv hI.keep.size
  replace lt_r := Nat.lt_of_lt_of_le lt_r hI.keep.size
  have hx' : Ext w W2 := hx.trans hI.keep.to_ext
  have lt_n5 : n5 < W2.heap.size := R_n5.lt
  have bs_n5 : w.heap.size ≤ n5 := Nat.le_trans hx.size lo_n5
  clear hx hI hL hok L
  have hx := hx'
  clear hx'
  obtain ⟨a, q_a⟩ : ∃ x, x = ((Y1) - (X1)) * ((Y2) - (X2)) := ⟨_, rfl⟩
  rw [← q_a] at R_n5
  replace q_a := Lib.hid q_a
  simp only [putP, Act.put, List.setIfInBounds_toArray, List.set_cons_zero, List.set_cons_succ, hb_n5]
  go_upto_region 2 with fail
  have hok : TrsOk [] W2.heap.size ([⟨some 15, 0, 73, some 16, fun cs => cs.length = 4, fun cs => isE (Value.agg (List.toArray cs)) (((Y1) + (X1)) * ((Y2) + (X2)))⟩] : List Trk) := ⟨by simp, by simp, by simp, by simp⟩
  refine wp_region_plan (Inv [] (fun j u => match j with | 0 => u = .pointer (some ⟨bu, 0, none⟩) | 1 => u = .pointer (some ⟨bu, 4, none⟩) | 2 => isE u (Y1) | 3 => u = .pointer (some ⟨bu, 0, none⟩) | 4 => u = .pointer (some ⟨bu, 0, none⟩) | 5 => isE u (X1) | 6 => isE u ((Y1) + (X1)) | 7 => u = .pointer (some ⟨bv, 0, none⟩) | 8 => u = .pointer (some ⟨bv, 4, none⟩) | 9 => isE u (Y2) | 10 => u = .pointer (some ⟨bv, 0, none⟩) | 11 => u = .pointer (some ⟨bv, 0, none⟩) | 12 => isE u (X2) | 13 => isE u ((Y2) + (X2)) | 14 => isE u (((Y1) + (X1)) * ((Y2) + (X2))) | _ => True) [⟨some 15, 0, 73, some 16, fun cs => cs.length = 4, fun cs => isE (Value.agg (List.toArray cs)) (((Y1) + (X1)) * ((Y2) + (X2)))⟩] W2) plan_83_2 [(28, 0), (29, 1), (30, 2), (31, 3), (32, 4), (33, 5), (34, 6), (35, 7), (36, 8), (37, 9), (38, 10), (39, 11), (40, 12), (41, 13), (42, 14), (6, 15)] 84 (by kernel_rfl) rfl (by kernel_rfl) (Inv.start hok (by simp)) ⟨?_, ?_, ?_, ?_, ?_, ?_, ?_, ?_, ?_, ?_, ?_, ?_, ?_, ?_, ?_, ?_, ?_, trivial⟩ ?_
  · intro L v w hL hD hC hI
    refine ⟨fun _ => ?_, fun hw => by cases hw⟩
    refine hI.val_step hL (by simp) ?_
    rw [show readsOf plan_83_2 0 = [] from rfl]
    go_simp
    exact ⟨rfl, Ext.refl _⟩
  · intro L v w hL hD hC hI
    refine ⟨fun _ => ?_, fun hw => by cases hw⟩
    have h0 : (v 0) = .pointer (some ⟨bu, 0, none⟩) := hI.val 0 (hD 0 (by decide))
    refine hI.val_step hL (by simp) ?_
    rw [show readsOf plan_83_2 1 = [(28, 0)] from rfl]
    simp only [putP, Act.put, List.setIfInBounds_toArray, List.set_cons_zero, List.set_cons_succ, h0]
    go_simp
    exact ⟨rfl, Ext.refl _⟩
  · intro L v w hL hD hC hI
    refine ⟨fun _ => ?_, fun hw => by cases hw⟩
    have h1 : (v 1) = .pointer (some ⟨bu, 4, none⟩) := hI.val 1 (hD 1 (by decide))
    refine hI.val_step hL (by simp) ?_
    rw [show readsOf plan_83_2 2 = [(29, 1)] from rfl]
    exact ld_Wy (R_bu.keep hI.keep (by simp)) _ rfl h1 fun u hu => ⟨hu, Ext.refl _⟩
  · intro L v w hL hD hC hI
    refine ⟨fun _ => ?_, fun hw => by cases hw⟩
    refine hI.val_step hL (by simp) ?_
    rw [show readsOf plan_83_2 3 = [] from rfl]
    go_simp
    exact ⟨rfl, Ext.refl _⟩
  · intro L v w hL hD hC hI
    refine ⟨fun _ => ?_, fun hw => by cases hw⟩
    have h3 : (v 3) = .pointer (some ⟨bu, 0, none⟩) := hI.val 3 (hD 3 (by decide))
    refine hI.val_step hL (by simp) ?_
    rw [show readsOf plan_83_2 4 = [(31, 3)] from rfl]
    simp only [putP, Act.put, List.setIfInBounds_toArray, List.set_cons_zero, List.set_cons_succ, h3]
    go_simp
    exact ⟨rfl, Ext.refl _⟩
  · intro L v w hL hD hC hI
    refine ⟨fun _ => ?_, fun hw => by cases hw⟩
    have h4 : (v 4) = .pointer (some ⟨bu, 0, none⟩) := hI.val 4 (hD 4 (by decide))
    refine hI.val_step hL (by simp) ?_
    rw [show readsOf plan_83_2 5 = [(32, 4)] from rfl]
    exact ld_Wx (R_bu.keep hI.keep (by simp)) _ rfl h4 fun u hu => ⟨hu, Ext.refl _⟩
  · intro L v w hL hD hC hI
    refine ⟨fun _ => ?_, fun hw => by cases hw⟩
    have h2 : isE (v 2) (Y1) := hI.val 2 (hD 2 (by decide))
    have h5 : isE (v 5) (X1) := hI.val 5 (hD 5 (by decide))
    refine hI.val_step hL (by simp) ?_
    rw [show readsOf plan_83_2 6 = [(30, 2), (33, 5)] from rfl]
    refine give_call _ _ _ _ rfl rfl Try.func67 (by kernel_rfl) (by kernel_rfl) ?_
    refine Calls.mono (eadd h2 h5 w) ?_
    rintro e w' ⟨r, rfl, hr, hx⟩
    exact ⟨r, rfl, hr, hx⟩
  · intro L v w hL hD hC hI
    refine ⟨fun _ => ?_, fun hw => by cases hw⟩
    refine hI.val_step hL (by simp) ?_
    rw [show readsOf plan_83_2 7 = [] from rfl]
    go_simp
    exact ⟨rfl, Ext.refl _⟩
  · intro L v w hL hD hC hI
    refine ⟨fun _ => ?_, fun hw => by cases hw⟩
    have h7 : (v 7) = .pointer (some ⟨bv, 0, none⟩) := hI.val 7 (hD 7 (by decide))
    refine hI.val_step hL (by simp) ?_
    rw [show readsOf plan_83_2 8 = [(35, 7)] from rfl]
    simp only [putP, Act.put, List.setIfInBounds_toArray, List.set_cons_zero, List.set_cons_succ, h7]
    go_simp
    exact ⟨rfl, Ext.refl _⟩
  · intro L v w hL hD hC hI
    refine ⟨fun _ => ?_, fun hw => by cases hw⟩
    have h8 : (v 8) = .pointer (some ⟨bv, 4, none⟩) := hI.val 8 (hD 8 (by decide))
    refine hI.val_step hL (by simp) ?_
    rw [show readsOf plan_83_2 9 = [(36, 8)] from rfl]
    exact ld_Wy (R_bv.keep hI.keep (by simp)) _ rfl h8 fun u hu => ⟨hu, Ext.refl _⟩
  · intro L v w hL hD hC hI
    refine ⟨fun _ => ?_, fun hw => by cases hw⟩
    refine hI.val_step hL (by simp) ?_
    rw [show readsOf plan_83_2 10 = [] from rfl]
    go_simp
    exact ⟨rfl, Ext.refl _⟩
  · intro L v w hL hD hC hI
    refine ⟨fun _ => ?_, fun hw => by cases hw⟩
    have h10 : (v 10) = .pointer (some ⟨bv, 0, none⟩) := hI.val 10 (hD 10 (by decide))
    refine hI.val_step hL (by simp) ?_
    rw [show readsOf plan_83_2 11 = [(38, 10)] from rfl]
    simp only [putP, Act.put, List.setIfInBounds_toArray, List.set_cons_zero, List.set_cons_succ, h10]
    go_simp
    exact ⟨rfl, Ext.refl _⟩
  · intro L v w hL hD hC hI
    refine ⟨fun _ => ?_, fun hw => by cases hw⟩
    have h11 : (v 11) = .pointer (some ⟨bv, 0, none⟩) := hI.val 11 (hD 11 (by decide))
    refine hI.val_step hL (by simp) ?_
    rw [show readsOf plan_83_2 12 = [(39, 11)] from rfl]
    exact ld_Wx (R_bv.keep hI.keep (by simp)) _ rfl h11 fun u hu => ⟨hu, Ext.refl _⟩
  · intro L v w hL hD hC hI
    refine ⟨fun _ => ?_, fun hw => by cases hw⟩
    have h9 : isE (v 9) (Y2) := hI.val 9 (hD 9 (by decide))
    have h12 : isE (v 12) (X2) := hI.val 12 (hD 12 (by decide))
    refine hI.val_step hL (by simp) ?_
    rw [show readsOf plan_83_2 13 = [(37, 9), (40, 12)] from rfl]
    refine give_call _ _ _ _ rfl rfl Try.func67 (by kernel_rfl) (by kernel_rfl) ?_
    refine Calls.mono (eadd h9 h12 w) ?_
    rintro e w' ⟨r, rfl, hr, hx⟩
    exact ⟨r, rfl, hr, hx⟩
  · intro L v w hL hD hC hI
    refine ⟨fun _ => ?_, fun hw => by cases hw⟩
    have h6 : isE (v 6) ((Y1) + (X1)) := hI.val 6 (hD 6 (by decide))
    have h13 : isE (v 13) ((Y2) + (X2)) := hI.val 13 (hD 13 (by decide))
    refine hI.val_step hL (by simp) ?_
    rw [show readsOf plan_83_2 14 = [(34, 6), (41, 13)] from rfl]
    refine give_call _ _ _ _ rfl rfl Try.func70 (by kernel_rfl) (by kernel_rfl) ?_
    refine Calls.mono (emul h6 h13 w) ?_
    rintro e w' ⟨r, rfl, hr, hx⟩
    exact ⟨r, rfl, hr, hx⟩
  · intro L v w hL hD hC hI
    refine ⟨fun _ => ?_, fun hw => by cases hw⟩
    refine hI.alloc_step hok hL ⟨some 15, 0, 73, some 16, fun cs => cs.length = 4, fun cs => isE (Value.agg (List.toArray cs)) (((Y1) + (X1)) * ((Y2) + (X2)))⟩ (by simp) rfl (by simp) (by intro s hs; cases hs; exact not_yet hC hL (by decide)) ?_
    rw [show readsOf plan_83_2 15 = [] from rfl]
    go_simp
    first | exact ⟨rfl, _, rfl, by first | rfl | trivial⟩ | exact ⟨trivial, rfl, _, rfl, by first | rfl | trivial⟩ | exact ⟨rfl, (bcells fun _ => 0).toList, by rw [Array.toArray_toList], by simp⟩ | exact ⟨trivial, rfl, (bcells fun _ => 0).toList, by rw [Array.toArray_toList], by simp⟩
  · intro L v w hL hD hC hI
    refine ⟨fun _ => ?_, fun hw => by cases hw⟩
    have h14 : isE (v 14) (((Y1) + (X1)) * ((Y2) + (X2))) := hI.val 14 (hD 14 (by decide))
    refine hI.store_step hok hL ⟨some 15, 0, 73, some 16, fun cs => cs.length = 4, fun cs => isE (Value.agg (List.toArray cs)) (((Y1) + (X1)) * ((Y2) + (X2)))⟩ (by simp) rfl (by simp) (by intro k hk; cases hk; exact hD 15 (by decide)) ?_
    intro n cs hb hR hold
    change v 15 = .pointer (some ⟨n, 0, none⟩) at hb
    rw [show readsOf plan_83_2 16 = [(42, 14), (6, 15)] from rfl]
    exact st_E hR hold _ _ rfl hb h14 fun w' cs' hr he hk => ⟨trivial, hk, cs', hr, he⟩
  intro L v3 W3 hL hI
  obtain ⟨n6, cs, hb_n6, lo_n6, hr, hn, ho⟩ := hI.row_made ⟨some 15, 0, 73, some 16, fun cs => cs.length = 4, fun cs => isE (Value.agg (List.toArray cs)) (((Y1) + (X1)) * ((Y2) + (X2)))⟩ (by simp) 15 rfl (hL 15 (by decide))
  have R_n6 : RV W3 n6 73 (fun u => isE u (((Y1) + (X1)) * ((Y2) + (X2)))) := ⟨cs, hr, hn 16 rfl (hL 16 (by decide))⟩
  clear hr hn ho
  replace R_bu := R_bu.keep hI.keep (by simp)
  replace R_bv := R_bv.keep hI.keep (by simp)
  replace R_r := R_r.keep hI.keep (by simp)
  replace R_n5 := R_n5.keep hI.keep (by simp)
  have ne_bu_n6 : bu ≠ n6 := Nat.ne_of_lt (Nat.lt_of_lt_of_le lt_bu lo_n6)
  have ne_bv_n6 : bv ≠ n6 := Nat.ne_of_lt (Nat.lt_of_lt_of_le lt_bv lo_n6)
  have ne_r_n6 : r ≠ n6 := Nat.ne_of_lt (Nat.lt_of_lt_of_le lt_r lo_n6)
  have ne_n5_n6 : n5 ≠ n6 := Nat.ne_of_lt (Nat.lt_of_lt_of_le lt_n5 lo_n6)
  replace lt_bu := Nat.lt_of_lt_of_le lt_bu hI.keep.size
  replace lt_bv := Nat.lt_of_lt_of_le lt_bv hI.keep.size
  replace lt_r := Nat.lt_of_lt_of_le lt_r hI.keep.size
  replace lt_n5 := Nat.lt_of_lt_of_le lt_n5 hI.keep.size
  have hx' : Ext w W3 := hx.trans hI.keep.to_ext
  have lt_n6 : n6 < W3.heap.size := R_n6.lt
  have bs_n6 : w.heap.size ≤ n6 := Nat.le_trans hx.size lo_n6
  clear hx hI hL hok L
  have hx := hx'
  clear hx'
  obtain ⟨b, q_b⟩ : ∃ x, x = ((Y1) + (X1)) * ((Y2) + (X2)) := ⟨_, rfl⟩
  rw [← q_b] at R_n6
  replace q_b := Lib.hid q_b
  simp only [putP, Act.put, List.setIfInBounds_toArray, List.set_cons_zero, List.set_cons_succ, hb_n6]
  go_upto_region 3 with fail
  have hok : TrsOk [] W3.heap.size ([⟨some 7, 0, 73, some 8, fun cs => cs.length = 4, fun cs => isE (Value.agg (List.toArray cs)) (((T1) * (T2)) * (C7.d + C7.d))⟩] : List Trk) := ⟨by simp, by simp, by simp, by simp⟩
  refine wp_region_text (Inv [] (fun j u => match j with | 0 => u = .pointer (some ⟨bu, 12, none⟩) | 1 => isE u (T1) | 2 => u = .pointer (some ⟨bv, 12, none⟩) | 3 => isE u (T2) | 4 => isE u ((T1) * (T2)) | 5 => isE u (C7.d + C7.d) | 6 => isE u (((T1) * (T2)) * (C7.d + C7.d)) | _ => True) [⟨some 7, 0, 73, some 8, fun cs => cs.length = 4, fun cs => isE (Value.agg (List.toArray cs)) (((T1) * (T2)) * (C7.d + C7.d))⟩] W3) plan_83_3 [(43, 0), (44, 1), (45, 2), (46, 3), (47, 4), (48, 5), (49, 6), (7, 7)] 84 rfl (by kernel_rfl) (Inv.start0 hok (by simp)) ⟨?_, ?_, ?_, ?_, ?_, ?_, ?_, ?_, ?_, trivial⟩ ?_
  · intro L v w hL hD hC hI
    refine ⟨fun _ => ?_, fun hw => by cases hw⟩
    refine hI.val_step hL (by simp) ?_
    rw [show readsOf plan_83_3 0 = [] from rfl]
    go_simp
    exact ⟨rfl, Ext.refl _⟩
  · intro L v w hL hD hC hI
    refine ⟨fun _ => ?_, fun hw => by cases hw⟩
    have h0 : (v 0) = .pointer (some ⟨bu, 12, none⟩) := hI.val 0 (hD 0 (by decide))
    refine hI.val_step hL (by simp) ?_
    rw [show readsOf plan_83_3 1 = [(43, 0)] from rfl]
    exact ld_Wt (R_bu.keep hI.keep (by simp)) _ rfl h0 fun u hu => ⟨hu, Ext.refl _⟩
  · intro L v w hL hD hC hI
    refine ⟨fun _ => ?_, fun hw => by cases hw⟩
    refine hI.val_step hL (by simp) ?_
    rw [show readsOf plan_83_3 2 = [] from rfl]
    go_simp
    exact ⟨rfl, Ext.refl _⟩
  · intro L v w hL hD hC hI
    refine ⟨fun _ => ?_, fun hw => by cases hw⟩
    have h2 : (v 2) = .pointer (some ⟨bv, 12, none⟩) := hI.val 2 (hD 2 (by decide))
    refine hI.val_step hL (by simp) ?_
    rw [show readsOf plan_83_3 3 = [(45, 2)] from rfl]
    exact ld_Wt (R_bv.keep hI.keep (by simp)) _ rfl h2 fun u hu => ⟨hu, Ext.refl _⟩
  · intro L v w hL hD hC hI
    refine ⟨fun _ => ?_, fun hw => by cases hw⟩
    have h1 : isE (v 1) (T1) := hI.val 1 (hD 1 (by decide))
    have h3 : isE (v 3) (T2) := hI.val 3 (hD 3 (by decide))
    refine hI.val_step hL (by simp) ?_
    rw [show readsOf plan_83_3 4 = [(44, 1), (46, 3)] from rfl]
    refine give_call _ _ _ _ rfl rfl Try.func70 (by kernel_rfl) (by kernel_rfl) ?_
    refine Calls.mono (emul h1 h3 w) ?_
    rintro e w' ⟨r, rfl, hr, hx⟩
    exact ⟨r, rfl, hr, hx⟩
  · intro L v w hL hD hC hI
    refine ⟨fun _ => ?_, fun hw => by cases hw⟩
    refine hI.val_step hL (by simp) ?_
    rw [show readsOf plan_83_3 5 = [] from rfl]
    refine give_call _ _ _ _ rfl rfl Try.func94 (by kernel_rfl) (by kernel_rfl) ?_
    refine Calls.mono (twice_any w) ?_
    rintro e w' ⟨r, rfl, hr, hx⟩
    exact ⟨r, rfl, hr, hx⟩
  · intro L v w hL hD hC hI
    refine ⟨fun _ => ?_, fun hw => by cases hw⟩
    have h4 : isE (v 4) ((T1) * (T2)) := hI.val 4 (hD 4 (by decide))
    have h5 : isE (v 5) (C7.d + C7.d) := hI.val 5 (hD 5 (by decide))
    refine hI.val_step hL (by simp) ?_
    rw [show readsOf plan_83_3 6 = [(47, 4), (48, 5)] from rfl]
    refine give_call _ _ _ _ rfl rfl Try.func70 (by kernel_rfl) (by kernel_rfl) ?_
    refine Calls.mono (emul h4 h5 w) ?_
    rintro e w' ⟨r, rfl, hr, hx⟩
    exact ⟨r, rfl, hr, hx⟩
  · intro L v w hL hD hC hI
    refine ⟨fun _ => ?_, fun hw => by cases hw⟩
    refine hI.alloc_step hok hL ⟨some 7, 0, 73, some 8, fun cs => cs.length = 4, fun cs => isE (Value.agg (List.toArray cs)) (((T1) * (T2)) * (C7.d + C7.d))⟩ (by simp) rfl (by simp) (by intro s hs; cases hs; exact not_yet hC hL (by decide)) ?_
    rw [show readsOf plan_83_3 7 = [] from rfl]
    go_simp
    first | exact ⟨rfl, _, rfl, by first | rfl | trivial⟩ | exact ⟨trivial, rfl, _, rfl, by first | rfl | trivial⟩ | exact ⟨rfl, (bcells fun _ => 0).toList, by rw [Array.toArray_toList], by simp⟩ | exact ⟨trivial, rfl, (bcells fun _ => 0).toList, by rw [Array.toArray_toList], by simp⟩
  · intro L v w hL hD hC hI
    refine ⟨fun _ => ?_, fun hw => by cases hw⟩
    have h6 : isE (v 6) (((T1) * (T2)) * (C7.d + C7.d)) := hI.val 6 (hD 6 (by decide))
    refine hI.store_step hok hL ⟨some 7, 0, 73, some 8, fun cs => cs.length = 4, fun cs => isE (Value.agg (List.toArray cs)) (((T1) * (T2)) * (C7.d + C7.d))⟩ (by simp) rfl (by simp) (by intro k hk; cases hk; exact hD 7 (by decide)) ?_
    intro n cs hb hR hold
    change v 7 = .pointer (some ⟨n, 0, none⟩) at hb
    rw [show readsOf plan_83_3 8 = [(49, 6), (7, 7)] from rfl]
    exact st_E hR hold _ _ rfl hb h6 fun w' cs' hr he hk => ⟨trivial, hk, cs', hr, he⟩
  intro L v4 W4 hL hI
  obtain ⟨n7, cs, hb_n7, lo_n7, hr, hn, ho⟩ := hI.row_made ⟨some 7, 0, 73, some 8, fun cs => cs.length = 4, fun cs => isE (Value.agg (List.toArray cs)) (((T1) * (T2)) * (C7.d + C7.d))⟩ (by simp) 7 rfl (hL 7 (by decide))
  have R_n7 : RV W4 n7 73 (fun u => isE u (((T1) * (T2)) * (C7.d + C7.d))) := ⟨cs, hr, hn 8 rfl (hL 8 (by decide))⟩
  clear hr hn ho
  replace R_bu := R_bu.keep hI.keep (by simp)
  replace R_bv := R_bv.keep hI.keep (by simp)
  replace R_r := R_r.keep hI.keep (by simp)
  replace R_n5 := R_n5.keep hI.keep (by simp)
  replace R_n6 := R_n6.keep hI.keep (by simp)
  have ne_bu_n7 : bu ≠ n7 := Nat.ne_of_lt (Nat.lt_of_lt_of_le lt_bu lo_n7)
  have ne_bv_n7 : bv ≠ n7 := Nat.ne_of_lt (Nat.lt_of_lt_of_le lt_bv lo_n7)
  have ne_r_n7 : r ≠ n7 := Nat.ne_of_lt (Nat.lt_of_lt_of_le lt_r lo_n7)
  have ne_n5_n7 : n5 ≠ n7 := Nat.ne_of_lt (Nat.lt_of_lt_of_le lt_n5 lo_n7)
  have ne_n6_n7 : n6 ≠ n7 := Nat.ne_of_lt (Nat.lt_of_lt_of_le lt_n6 lo_n7)
  replace lt_bu := Nat.lt_of_lt_of_le lt_bu hI.keep.size
  replace lt_bv := Nat.lt_of_lt_of_le lt_bv hI.keep.size
  replace lt_r := Nat.lt_of_lt_of_le lt_r hI.keep.size
  replace lt_n5 := Nat.lt_of_lt_of_le lt_n5 hI.keep.size
  replace lt_n6 := Nat.lt_of_lt_of_le lt_n6 hI.keep.size
  have hx' : Ext w W4 := hx.trans hI.keep.to_ext
  have lt_n7 : n7 < W4.heap.size := R_n7.lt
  have bs_n7 : w.heap.size ≤ n7 := Nat.le_trans hx.size lo_n7
  clear hx hI hL hok L
  have hx := hx'
  clear hx'
  obtain ⟨c, q_c⟩ : ∃ x, x = ((T1) * (T2)) * (C7.d + C7.d) := ⟨_, rfl⟩
  rw [← q_c] at R_n7
  replace q_c := Lib.hid q_c
  simp only [putP, Act.put, List.setIfInBounds_toArray, List.set_cons_zero, List.set_cons_succ, hb_n7]
  go_upto_region 4 with fail
  have hok : TrsOk [] W4.heap.size ([⟨some 5, 0, 73, some 6, fun cs => cs.length = 4, fun cs => isE (Value.agg (List.toArray cs)) ((Z1) * (Z2))⟩] : List Trk) := ⟨by simp, by simp, by simp, by simp⟩
  refine wp_region_text (Inv [] (fun j u => match j with | 0 => u = .pointer (some ⟨bu, 8, none⟩) | 1 => isE u (Z1) | 2 => u = .pointer (some ⟨bv, 8, none⟩) | 3 => isE u (Z2) | 4 => isE u ((Z1) * (Z2)) | _ => True) [⟨some 5, 0, 73, some 6, fun cs => cs.length = 4, fun cs => isE (Value.agg (List.toArray cs)) ((Z1) * (Z2))⟩] W4) plan_83_4 [(50, 0), (51, 1), (52, 2), (53, 3), (54, 4), (8, 5)] 84 rfl (by kernel_rfl) (Inv.start0 hok (by simp)) ⟨?_, ?_, ?_, ?_, ?_, ?_, ?_, trivial⟩ ?_
  · intro L v w hL hD hC hI
    refine ⟨fun _ => ?_, fun hw => by cases hw⟩
    refine hI.val_step hL (by simp) ?_
    rw [show readsOf plan_83_4 0 = [] from rfl]
    go_simp
    exact ⟨rfl, Ext.refl _⟩
  · intro L v w hL hD hC hI
    refine ⟨fun _ => ?_, fun hw => by cases hw⟩
    have h0 : (v 0) = .pointer (some ⟨bu, 8, none⟩) := hI.val 0 (hD 0 (by decide))
    refine hI.val_step hL (by simp) ?_
    rw [show readsOf plan_83_4 1 = [(50, 0)] from rfl]
    exact ld_Wz (R_bu.keep hI.keep (by simp)) _ rfl h0 fun u hu => ⟨hu, Ext.refl _⟩
  · intro L v w hL hD hC hI
    refine ⟨fun _ => ?_, fun hw => by cases hw⟩
    refine hI.val_step hL (by simp) ?_
    rw [show readsOf plan_83_4 2 = [] from rfl]
    go_simp
    exact ⟨rfl, Ext.refl _⟩
  · intro L v w hL hD hC hI
    refine ⟨fun _ => ?_, fun hw => by cases hw⟩
    have h2 : (v 2) = .pointer (some ⟨bv, 8, none⟩) := hI.val 2 (hD 2 (by decide))
    refine hI.val_step hL (by simp) ?_
    rw [show readsOf plan_83_4 3 = [(52, 2)] from rfl]
    exact ld_Wz (R_bv.keep hI.keep (by simp)) _ rfl h2 fun u hu => ⟨hu, Ext.refl _⟩
  · intro L v w hL hD hC hI
    refine ⟨fun _ => ?_, fun hw => by cases hw⟩
    have h1 : isE (v 1) (Z1) := hI.val 1 (hD 1 (by decide))
    have h3 : isE (v 3) (Z2) := hI.val 3 (hD 3 (by decide))
    refine hI.val_step hL (by simp) ?_
    rw [show readsOf plan_83_4 4 = [(51, 1), (53, 3)] from rfl]
    refine give_call _ _ _ _ rfl rfl Try.func70 (by kernel_rfl) (by kernel_rfl) ?_
    refine Calls.mono (emul h1 h3 w) ?_
    rintro e w' ⟨r, rfl, hr, hx⟩
    exact ⟨r, rfl, hr, hx⟩
  · intro L v w hL hD hC hI
    refine ⟨fun _ => ?_, fun hw => by cases hw⟩
    refine hI.alloc_step hok hL ⟨some 5, 0, 73, some 6, fun cs => cs.length = 4, fun cs => isE (Value.agg (List.toArray cs)) ((Z1) * (Z2))⟩ (by simp) rfl (by simp) (by intro s hs; cases hs; exact not_yet hC hL (by decide)) ?_
    rw [show readsOf plan_83_4 5 = [] from rfl]
    go_simp
    first | exact ⟨rfl, _, rfl, by first | rfl | trivial⟩ | exact ⟨trivial, rfl, _, rfl, by first | rfl | trivial⟩ | exact ⟨rfl, (bcells fun _ => 0).toList, by rw [Array.toArray_toList], by simp⟩ | exact ⟨trivial, rfl, (bcells fun _ => 0).toList, by rw [Array.toArray_toList], by simp⟩
  · intro L v w hL hD hC hI
    refine ⟨fun _ => ?_, fun hw => by cases hw⟩
    have h4 : isE (v 4) ((Z1) * (Z2)) := hI.val 4 (hD 4 (by decide))
    refine hI.store_step hok hL ⟨some 5, 0, 73, some 6, fun cs => cs.length = 4, fun cs => isE (Value.agg (List.toArray cs)) ((Z1) * (Z2))⟩ (by simp) rfl (by simp) (by intro k hk; cases hk; exact hD 5 (by decide)) ?_
    intro n cs hb hR hold
    change v 5 = .pointer (some ⟨n, 0, none⟩) at hb
    rw [show readsOf plan_83_4 6 = [(54, 4), (8, 5)] from rfl]
    exact st_E hR hold _ _ rfl hb h4 fun w' cs' hr he hk => ⟨trivial, hk, cs', hr, he⟩
  intro L v5 W5 hL hI
  obtain ⟨n8, cs, hb_n8, lo_n8, hr, hn, ho⟩ := hI.row_made ⟨some 5, 0, 73, some 6, fun cs => cs.length = 4, fun cs => isE (Value.agg (List.toArray cs)) ((Z1) * (Z2))⟩ (by simp) 5 rfl (hL 5 (by decide))
  have R_n8 : RV W5 n8 73 (fun u => isE u ((Z1) * (Z2))) := ⟨cs, hr, hn 6 rfl (hL 6 (by decide))⟩
  clear hr hn ho
  replace R_bu := R_bu.keep hI.keep (by simp)
  replace R_bv := R_bv.keep hI.keep (by simp)
  replace R_r := R_r.keep hI.keep (by simp)
  replace R_n5 := R_n5.keep hI.keep (by simp)
  replace R_n6 := R_n6.keep hI.keep (by simp)
  replace R_n7 := R_n7.keep hI.keep (by simp)
  have ne_bu_n8 : bu ≠ n8 := Nat.ne_of_lt (Nat.lt_of_lt_of_le lt_bu lo_n8)
  have ne_bv_n8 : bv ≠ n8 := Nat.ne_of_lt (Nat.lt_of_lt_of_le lt_bv lo_n8)
  have ne_r_n8 : r ≠ n8 := Nat.ne_of_lt (Nat.lt_of_lt_of_le lt_r lo_n8)
  have ne_n5_n8 : n5 ≠ n8 := Nat.ne_of_lt (Nat.lt_of_lt_of_le lt_n5 lo_n8)
  have ne_n6_n8 : n6 ≠ n8 := Nat.ne_of_lt (Nat.lt_of_lt_of_le lt_n6 lo_n8)
  have ne_n7_n8 : n7 ≠ n8 := Nat.ne_of_lt (Nat.lt_of_lt_of_le lt_n7 lo_n8)
  replace lt_bu := Nat.lt_of_lt_of_le lt_bu hI.keep.size
  replace lt_bv := Nat.lt_of_lt_of_le lt_bv hI.keep.size
  replace lt_r := Nat.lt_of_lt_of_le lt_r hI.keep.size
  replace lt_n5 := Nat.lt_of_lt_of_le lt_n5 hI.keep.size
  replace lt_n6 := Nat.lt_of_lt_of_le lt_n6 hI.keep.size
  replace lt_n7 := Nat.lt_of_lt_of_le lt_n7 hI.keep.size
  have hx' : Ext w W5 := hx.trans hI.keep.to_ext
  have lt_n8 : n8 < W5.heap.size := R_n8.lt
  have bs_n8 : w.heap.size ≤ n8 := Nat.le_trans hx.size lo_n8
  clear hx hI hL hok L
  have hx := hx'
  clear hx'
  obtain ⟨z0, q_z0⟩ : ∃ x, x = (Z1) * (Z2) := ⟨_, rfl⟩
  rw [← q_z0] at R_n8
  replace q_z0 := Lib.hid q_z0
  simp only [putP, Act.put, List.setIfInBounds_toArray, List.set_cons_zero, List.set_cons_succ, hb_n8]
  go_upto_region 5 with fail
  have hok : TrsOk [n8] W5.heap.size ([⟨none, n8, 73, some 3, fun cs => isE (Value.agg (List.toArray cs)) (z0), fun cs => isE (Value.agg (List.toArray cs)) ((z0) + (z0))⟩] : List Trk) := ⟨by simp [R_n8.lt], by simp, by simp, by simp⟩
  refine wp_region_text (Inv [n8] (fun j u => match j with | 0 => isE u (z0) | 1 => isE u (z0) | 2 => isE u ((z0) + (z0)) | _ => True) [⟨none, n8, 73, some 3, fun cs => isE (Value.agg (List.toArray cs)) (z0), fun cs => isE (Value.agg (List.toArray cs)) ((z0) + (z0))⟩] W5) plan_83_5 [(55, 0), (56, 1), (57, 2)] 84 rfl (by kernel_rfl) (Inv.start0 hok (by
      simp only [List.forall_mem_cons, List.not_mem_nil, false_implies, implies_true, and_true]
      exact fun _ => R_n8)) ⟨?_, ?_, ?_, ?_, trivial⟩ ?_
  · intro L v w hL hD hC hI
    refine ⟨fun _ => ?_, fun hw => by cases hw⟩
    refine hI.val_step hL (by simp) ?_
    rw [show readsOf plan_83_5 0 = [] from rfl]
    exact ld_E (hI.row_old ⟨none, n8, 73, some 3, fun cs => isE (Value.agg (List.toArray cs)) (z0), fun cs => isE (Value.agg (List.toArray cs)) ((z0) + (z0))⟩ (by simp) rfl (by intro s hs; cases hs; exact not_yet hC hL (by decide))) _ rfl rfl fun u hu => ⟨hu, Ext.refl _⟩
  · intro L v w hL hD hC hI
    refine ⟨fun _ => ?_, fun hw => by cases hw⟩
    refine hI.val_step hL (by simp) ?_
    rw [show readsOf plan_83_5 1 = [] from rfl]
    exact ld_E (hI.row_old ⟨none, n8, 73, some 3, fun cs => isE (Value.agg (List.toArray cs)) (z0), fun cs => isE (Value.agg (List.toArray cs)) ((z0) + (z0))⟩ (by simp) rfl (by intro s hs; cases hs; exact not_yet hC hL (by decide))) _ rfl rfl fun u hu => ⟨hu, Ext.refl _⟩
  · intro L v w hL hD hC hI
    refine ⟨fun _ => ?_, fun hw => by cases hw⟩
    have h0 : isE (v 0) (z0) := hI.val 0 (hD 0 (by decide))
    have h1 : isE (v 1) (z0) := hI.val 1 (hD 1 (by decide))
    refine hI.val_step hL (by simp) ?_
    rw [show readsOf plan_83_5 2 = [(55, 0), (56, 1)] from rfl]
    refine give_call _ _ _ _ rfl rfl Try.func67 (by kernel_rfl) (by kernel_rfl) ?_
    refine Calls.mono (eadd h0 h1 w) ?_
    rintro e w' ⟨r, rfl, hr, hx⟩
    exact ⟨r, rfl, hr, hx⟩
  · intro L v w hL hD hC hI
    refine ⟨fun _ => ?_, fun hw => by cases hw⟩
    have h2 : isE (v 2) ((z0) + (z0)) := hI.val 2 (hD 2 (by decide))
    refine hI.store_step hok hL ⟨none, n8, 73, some 3, fun cs => isE (Value.agg (List.toArray cs)) (z0), fun cs => isE (Value.agg (List.toArray cs)) ((z0) + (z0))⟩ (by simp) rfl (by simp) (by intro k hk; cases hk) ?_
    intro n cs hb hR hold
    change n = n8 at hb
    subst hb
    rw [show readsOf plan_83_5 3 = [(57, 2)] from rfl]
    exact st_E hR (isE_len hold) _ _ rfl rfl h2 fun w' cs' hr he hk => ⟨trivial, hk, cs', hr, he⟩
  intro L v6 W6 hL hI
  have N_n8 : RV W6 n8 73 (fun u => isE u ((z0) + (z0))) := hI.row_new ⟨none, n8, 73, some 3, fun cs => isE (Value.agg (List.toArray cs)) (z0), fun cs => isE (Value.agg (List.toArray cs)) ((z0) + (z0))⟩ (by simp) rfl 3 rfl (hL 3 (by decide))
  replace R_bu := R_bu.keep hI.keep (by simp [ne_bu_n8, Ne.symm ne_bu_n8])
  replace R_bv := R_bv.keep hI.keep (by simp [ne_bv_n8, Ne.symm ne_bv_n8])
  replace R_r := R_r.keep hI.keep (by simp [ne_r_n8, Ne.symm ne_r_n8])
  replace R_n5 := R_n5.keep hI.keep (by simp [ne_n5_n8, Ne.symm ne_n5_n8])
  replace R_n6 := R_n6.keep hI.keep (by simp [ne_n6_n8, Ne.symm ne_n6_n8])
  replace R_n7 := R_n7.keep hI.keep (by simp [ne_n7_n8, Ne.symm ne_n7_n8])
  clear R_n8
  have R_n8 := N_n8
  clear N_n8
  replace lt_bu := Nat.lt_of_lt_of_le lt_bu hI.keep.size
  replace lt_bv := Nat.lt_of_lt_of_le lt_bv hI.keep.size
  replace lt_r := Nat.lt_of_lt_of_le lt_r hI.keep.size
  replace lt_n5 := Nat.lt_of_lt_of_le lt_n5 hI.keep.size
  replace lt_n6 := Nat.lt_of_lt_of_le lt_n6 hI.keep.size
  replace lt_n7 := Nat.lt_of_lt_of_le lt_n7 hI.keep.size
  replace lt_n8 := Nat.lt_of_lt_of_le lt_n8 hI.keep.size
  have hx' : Ext w W6 := Ext.keep_ hx hI.keep (by simp only [List.forall_mem_cons, List.not_mem_nil, false_implies, implies_true, and_true]; exact bs_n8)
  clear hx hI hL hok L
  have hx := hx'
  clear hx'
  obtain ⟨z, q_z⟩ : ∃ x, x = (z0) + (z0) := ⟨_, rfl⟩
  rw [← q_z] at R_n8
  replace q_z := Lib.hid q_z
  simp only [putP, Act.put, List.setIfInBounds_toArray, List.set_cons_zero, List.set_cons_succ]
  go_upto_region 6 with fail
  have hok : TrsOk [] W6.heap.size ([⟨some 12, 0, 73, some 16, fun cs => cs.length = 4, fun cs => isE (Value.agg (List.toArray cs)) ((b) - (a))⟩, ⟨some 13, 0, 73, some 17, fun cs => cs.length = 4, fun cs => isE (Value.agg (List.toArray cs)) ((z) - (c))⟩, ⟨some 14, 0, 73, some 18, fun cs => cs.length = 4, fun cs => isE (Value.agg (List.toArray cs)) ((z) + (c))⟩, ⟨some 15, 0, 73, some 19, fun cs => cs.length = 4, fun cs => isE (Value.agg (List.toArray cs)) ((b) + (a))⟩] : List Trk) := ⟨by simp, by simp, by simp, by simp⟩
  refine wp_region_plan (Inv [] (fun j u => match j with | 0 => isE u (b) | 1 => isE u (a) | 2 => isE u ((b) - (a)) | 3 => isE u (z) | 4 => isE u (c) | 5 => isE u ((z) - (c)) | 6 => isE u (z) | 7 => isE u (c) | 8 => isE u ((z) + (c)) | 9 => isE u (b) | 10 => isE u (a) | 11 => isE u ((b) + (a)) | _ => True) [⟨some 12, 0, 73, some 16, fun cs => cs.length = 4, fun cs => isE (Value.agg (List.toArray cs)) ((b) - (a))⟩, ⟨some 13, 0, 73, some 17, fun cs => cs.length = 4, fun cs => isE (Value.agg (List.toArray cs)) ((z) - (c))⟩, ⟨some 14, 0, 73, some 18, fun cs => cs.length = 4, fun cs => isE (Value.agg (List.toArray cs)) ((z) + (c))⟩, ⟨some 15, 0, 73, some 19, fun cs => cs.length = 4, fun cs => isE (Value.agg (List.toArray cs)) ((b) + (a))⟩] W6) plan_83_6 [(58, 0), (59, 1), (60, 2), (61, 3), (62, 4), (63, 5), (64, 6), (65, 7), (66, 8), (67, 9), (68, 10), (69, 11), (9, 12), (10, 13), (11, 14), (12, 15)] 84 (by kernel_rfl) rfl (by kernel_rfl) (Inv.start hok (by simp)) ⟨?_, ?_, ?_, ?_, ?_, ?_, ?_, ?_, ?_, ?_, ?_, ?_, ?_, ?_, ?_, ?_, ?_, ?_, ?_, ?_, trivial⟩ ?_
  · intro L v w hL hD hC hI
    refine ⟨fun _ => ?_, fun hw => by cases hw⟩
    refine hI.val_step hL (by simp) ?_
    rw [show readsOf plan_83_6 0 = [] from rfl]
    exact ld_E (R_n6.keep hI.keep (by simp)) _ rfl rfl fun u hu => ⟨hu, Ext.refl _⟩
  · intro L v w hL hD hC hI
    refine ⟨fun _ => ?_, fun hw => by cases hw⟩
    refine hI.val_step hL (by simp) ?_
    rw [show readsOf plan_83_6 1 = [] from rfl]
    exact ld_E (R_n5.keep hI.keep (by simp)) _ rfl rfl fun u hu => ⟨hu, Ext.refl _⟩
  · intro L v w hL hD hC hI
    refine ⟨fun _ => ?_, fun hw => by cases hw⟩
    have h0 : isE (v 0) (b) := hI.val 0 (hD 0 (by decide))
    have h1 : isE (v 1) (a) := hI.val 1 (hD 1 (by decide))
    refine hI.val_step hL (by simp) ?_
    rw [show readsOf plan_83_6 2 = [(58, 0), (59, 1)] from rfl]
    refine give_call _ _ _ _ rfl rfl Try.func69 (by kernel_rfl) (by kernel_rfl) ?_
    refine Calls.mono (esub h0 h1 w) ?_
    rintro e w' ⟨r, rfl, hr, hx⟩
    exact ⟨r, rfl, hr, hx⟩
  · intro L v w hL hD hC hI
    refine ⟨fun _ => ?_, fun hw => by cases hw⟩
    refine hI.val_step hL (by simp) ?_
    rw [show readsOf plan_83_6 3 = [] from rfl]
    exact ld_E (R_n8.keep hI.keep (by simp)) _ rfl rfl fun u hu => ⟨hu, Ext.refl _⟩
  · intro L v w hL hD hC hI
    refine ⟨fun _ => ?_, fun hw => by cases hw⟩
    refine hI.val_step hL (by simp) ?_
    rw [show readsOf plan_83_6 4 = [] from rfl]
    exact ld_E (R_n7.keep hI.keep (by simp)) _ rfl rfl fun u hu => ⟨hu, Ext.refl _⟩
  · intro L v w hL hD hC hI
    refine ⟨fun _ => ?_, fun hw => by cases hw⟩
    have h3 : isE (v 3) (z) := hI.val 3 (hD 3 (by decide))
    have h4 : isE (v 4) (c) := hI.val 4 (hD 4 (by decide))
    refine hI.val_step hL (by simp) ?_
    rw [show readsOf plan_83_6 5 = [(61, 3), (62, 4)] from rfl]
    refine give_call _ _ _ _ rfl rfl Try.func69 (by kernel_rfl) (by kernel_rfl) ?_
    refine Calls.mono (esub h3 h4 w) ?_
    rintro e w' ⟨r, rfl, hr, hx⟩
    exact ⟨r, rfl, hr, hx⟩
  · intro L v w hL hD hC hI
    refine ⟨fun _ => ?_, fun hw => by cases hw⟩
    refine hI.val_step hL (by simp) ?_
    rw [show readsOf plan_83_6 6 = [] from rfl]
    exact ld_E (R_n8.keep hI.keep (by simp)) _ rfl rfl fun u hu => ⟨hu, Ext.refl _⟩
  · intro L v w hL hD hC hI
    refine ⟨fun _ => ?_, fun hw => by cases hw⟩
    refine hI.val_step hL (by simp) ?_
    rw [show readsOf plan_83_6 7 = [] from rfl]
    exact ld_E (R_n7.keep hI.keep (by simp)) _ rfl rfl fun u hu => ⟨hu, Ext.refl _⟩
  · intro L v w hL hD hC hI
    refine ⟨fun _ => ?_, fun hw => by cases hw⟩
    have h6 : isE (v 6) (z) := hI.val 6 (hD 6 (by decide))
    have h7 : isE (v 7) (c) := hI.val 7 (hD 7 (by decide))
    refine hI.val_step hL (by simp) ?_
    rw [show readsOf plan_83_6 8 = [(64, 6), (65, 7)] from rfl]
    refine give_call _ _ _ _ rfl rfl Try.func67 (by kernel_rfl) (by kernel_rfl) ?_
    refine Calls.mono (eadd h6 h7 w) ?_
    rintro e w' ⟨r, rfl, hr, hx⟩
    exact ⟨r, rfl, hr, hx⟩
  · intro L v w hL hD hC hI
    refine ⟨fun _ => ?_, fun hw => by cases hw⟩
    refine hI.val_step hL (by simp) ?_
    rw [show readsOf plan_83_6 9 = [] from rfl]
    exact ld_E (R_n6.keep hI.keep (by simp)) _ rfl rfl fun u hu => ⟨hu, Ext.refl _⟩
  · intro L v w hL hD hC hI
    refine ⟨fun _ => ?_, fun hw => by cases hw⟩
    refine hI.val_step hL (by simp) ?_
    rw [show readsOf plan_83_6 10 = [] from rfl]
    exact ld_E (R_n5.keep hI.keep (by simp)) _ rfl rfl fun u hu => ⟨hu, Ext.refl _⟩
  · intro L v w hL hD hC hI
    refine ⟨fun _ => ?_, fun hw => by cases hw⟩
    have h9 : isE (v 9) (b) := hI.val 9 (hD 9 (by decide))
    have h10 : isE (v 10) (a) := hI.val 10 (hD 10 (by decide))
    refine hI.val_step hL (by simp) ?_
    rw [show readsOf plan_83_6 11 = [(67, 9), (68, 10)] from rfl]
    refine give_call _ _ _ _ rfl rfl Try.func67 (by kernel_rfl) (by kernel_rfl) ?_
    refine Calls.mono (eadd h9 h10 w) ?_
    rintro e w' ⟨r, rfl, hr, hx⟩
    exact ⟨r, rfl, hr, hx⟩
  · intro L v w hL hD hC hI
    refine ⟨fun _ => ?_, fun hw => by cases hw⟩
    refine hI.alloc_step hok hL ⟨some 12, 0, 73, some 16, fun cs => cs.length = 4, fun cs => isE (Value.agg (List.toArray cs)) ((b) - (a))⟩ (by simp) rfl (by simp) (by intro s hs; cases hs; exact not_yet hC hL (by decide)) ?_
    rw [show readsOf plan_83_6 12 = [] from rfl]
    go_simp
    first | exact ⟨rfl, _, rfl, by first | rfl | trivial⟩ | exact ⟨trivial, rfl, _, rfl, by first | rfl | trivial⟩ | exact ⟨rfl, (bcells fun _ => 0).toList, by rw [Array.toArray_toList], by simp⟩ | exact ⟨trivial, rfl, (bcells fun _ => 0).toList, by rw [Array.toArray_toList], by simp⟩
  · intro L v w hL hD hC hI
    refine ⟨fun _ => ?_, fun hw => by cases hw⟩
    refine hI.alloc_step hok hL ⟨some 13, 0, 73, some 17, fun cs => cs.length = 4, fun cs => isE (Value.agg (List.toArray cs)) ((z) - (c))⟩ (by simp) rfl (by simp) (by intro s hs; cases hs; exact not_yet hC hL (by decide)) ?_
    rw [show readsOf plan_83_6 13 = [] from rfl]
    go_simp
    first | exact ⟨rfl, _, rfl, by first | rfl | trivial⟩ | exact ⟨trivial, rfl, _, rfl, by first | rfl | trivial⟩ | exact ⟨rfl, (bcells fun _ => 0).toList, by rw [Array.toArray_toList], by simp⟩ | exact ⟨trivial, rfl, (bcells fun _ => 0).toList, by rw [Array.toArray_toList], by simp⟩
  · intro L v w hL hD hC hI
    refine ⟨fun _ => ?_, fun hw => by cases hw⟩
    refine hI.alloc_step hok hL ⟨some 14, 0, 73, some 18, fun cs => cs.length = 4, fun cs => isE (Value.agg (List.toArray cs)) ((z) + (c))⟩ (by simp) rfl (by simp) (by intro s hs; cases hs; exact not_yet hC hL (by decide)) ?_
    rw [show readsOf plan_83_6 14 = [] from rfl]
    go_simp
    first | exact ⟨rfl, _, rfl, by first | rfl | trivial⟩ | exact ⟨trivial, rfl, _, rfl, by first | rfl | trivial⟩ | exact ⟨rfl, (bcells fun _ => 0).toList, by rw [Array.toArray_toList], by simp⟩ | exact ⟨trivial, rfl, (bcells fun _ => 0).toList, by rw [Array.toArray_toList], by simp⟩
  · intro L v w hL hD hC hI
    refine ⟨fun _ => ?_, fun hw => by cases hw⟩
    refine hI.alloc_step hok hL ⟨some 15, 0, 73, some 19, fun cs => cs.length = 4, fun cs => isE (Value.agg (List.toArray cs)) ((b) + (a))⟩ (by simp) rfl (by simp) (by intro s hs; cases hs; exact not_yet hC hL (by decide)) ?_
    rw [show readsOf plan_83_6 15 = [] from rfl]
    go_simp
    first | exact ⟨rfl, _, rfl, by first | rfl | trivial⟩ | exact ⟨trivial, rfl, _, rfl, by first | rfl | trivial⟩ | exact ⟨rfl, (bcells fun _ => 0).toList, by rw [Array.toArray_toList], by simp⟩ | exact ⟨trivial, rfl, (bcells fun _ => 0).toList, by rw [Array.toArray_toList], by simp⟩
  · intro L v w hL hD hC hI
    refine ⟨fun _ => ?_, fun hw => by cases hw⟩
    have h2 : isE (v 2) ((b) - (a)) := hI.val 2 (hD 2 (by decide))
    refine hI.store_step hok hL ⟨some 12, 0, 73, some 16, fun cs => cs.length = 4, fun cs => isE (Value.agg (List.toArray cs)) ((b) - (a))⟩ (by simp) rfl (by simp) (by intro k hk; cases hk; exact hD 12 (by decide)) ?_
    intro n cs hb hR hold
    change v 12 = .pointer (some ⟨n, 0, none⟩) at hb
    rw [show readsOf plan_83_6 16 = [(60, 2), (9, 12)] from rfl]
    exact st_E hR hold _ _ rfl hb h2 fun w' cs' hr he hk => ⟨trivial, hk, cs', hr, he⟩
  · intro L v w hL hD hC hI
    refine ⟨fun _ => ?_, fun hw => by cases hw⟩
    have h5 : isE (v 5) ((z) - (c)) := hI.val 5 (hD 5 (by decide))
    refine hI.store_step hok hL ⟨some 13, 0, 73, some 17, fun cs => cs.length = 4, fun cs => isE (Value.agg (List.toArray cs)) ((z) - (c))⟩ (by simp) rfl (by simp) (by intro k hk; cases hk; exact hD 13 (by decide)) ?_
    intro n cs hb hR hold
    change v 13 = .pointer (some ⟨n, 0, none⟩) at hb
    rw [show readsOf plan_83_6 17 = [(63, 5), (10, 13)] from rfl]
    exact st_E hR hold _ _ rfl hb h5 fun w' cs' hr he hk => ⟨trivial, hk, cs', hr, he⟩
  · intro L v w hL hD hC hI
    refine ⟨fun _ => ?_, fun hw => by cases hw⟩
    have h8 : isE (v 8) ((z) + (c)) := hI.val 8 (hD 8 (by decide))
    refine hI.store_step hok hL ⟨some 14, 0, 73, some 18, fun cs => cs.length = 4, fun cs => isE (Value.agg (List.toArray cs)) ((z) + (c))⟩ (by simp) rfl (by simp) (by intro k hk; cases hk; exact hD 14 (by decide)) ?_
    intro n cs hb hR hold
    change v 14 = .pointer (some ⟨n, 0, none⟩) at hb
    rw [show readsOf plan_83_6 18 = [(66, 8), (11, 14)] from rfl]
    exact st_E hR hold _ _ rfl hb h8 fun w' cs' hr he hk => ⟨trivial, hk, cs', hr, he⟩
  · intro L v w hL hD hC hI
    refine ⟨fun _ => ?_, fun hw => by cases hw⟩
    have h11 : isE (v 11) ((b) + (a)) := hI.val 11 (hD 11 (by decide))
    refine hI.store_step hok hL ⟨some 15, 0, 73, some 19, fun cs => cs.length = 4, fun cs => isE (Value.agg (List.toArray cs)) ((b) + (a))⟩ (by simp) rfl (by simp) (by intro k hk; cases hk; exact hD 15 (by decide)) ?_
    intro n cs hb hR hold
    change v 15 = .pointer (some ⟨n, 0, none⟩) at hb
    rw [show readsOf plan_83_6 19 = [(69, 11), (12, 15)] from rfl]
    exact st_E hR hold _ _ rfl hb h11 fun w' cs' hr he hk => ⟨trivial, hk, cs', hr, he⟩
  intro L v7 W7 hL hI
  obtain ⟨n9, cs, hb_n9, lo_n9, hr, hn, ho⟩ := hI.row_made ⟨some 12, 0, 73, some 16, fun cs => cs.length = 4, fun cs => isE (Value.agg (List.toArray cs)) ((b) - (a))⟩ (by simp) 12 rfl (hL 12 (by decide))
  have R_n9 : RV W7 n9 73 (fun u => isE u ((b) - (a))) := ⟨cs, hr, hn 16 rfl (hL 16 (by decide))⟩
  clear hr hn ho
  obtain ⟨n10, cs, hb_n10, lo_n10, hr, hn, ho⟩ := hI.row_made ⟨some 13, 0, 73, some 17, fun cs => cs.length = 4, fun cs => isE (Value.agg (List.toArray cs)) ((z) - (c))⟩ (by simp) 13 rfl (hL 13 (by decide))
  have R_n10 : RV W7 n10 73 (fun u => isE u ((z) - (c))) := ⟨cs, hr, hn 17 rfl (hL 17 (by decide))⟩
  clear hr hn ho
  obtain ⟨n11, cs, hb_n11, lo_n11, hr, hn, ho⟩ := hI.row_made ⟨some 14, 0, 73, some 18, fun cs => cs.length = 4, fun cs => isE (Value.agg (List.toArray cs)) ((z) + (c))⟩ (by simp) 14 rfl (hL 14 (by decide))
  have R_n11 : RV W7 n11 73 (fun u => isE u ((z) + (c))) := ⟨cs, hr, hn 18 rfl (hL 18 (by decide))⟩
  clear hr hn ho
  obtain ⟨n12, cs, hb_n12, lo_n12, hr, hn, ho⟩ := hI.row_made ⟨some 15, 0, 73, some 19, fun cs => cs.length = 4, fun cs => isE (Value.agg (List.toArray cs)) ((b) + (a))⟩ (by simp) 15 rfl (hL 15 (by decide))
  have R_n12 : RV W7 n12 73 (fun u => isE u ((b) + (a))) := ⟨cs, hr, hn 19 rfl (hL 19 (by decide))⟩
  clear hr hn ho
  replace R_bu := R_bu.keep hI.keep (by simp)
  replace R_bv := R_bv.keep hI.keep (by simp)
  replace R_r := R_r.keep hI.keep (by simp)
  replace R_n5 := R_n5.keep hI.keep (by simp)
  replace R_n6 := R_n6.keep hI.keep (by simp)
  replace R_n7 := R_n7.keep hI.keep (by simp)
  replace R_n8 := R_n8.keep hI.keep (by simp)
  have ne_n9_n10 : n9 ≠ n10 := fun e => hI.apart ⟨some 12, 0, 73, some 16, fun cs => cs.length = 4, fun cs => isE (Value.agg (List.toArray cs)) ((b) - (a))⟩ (by simp) ⟨some 13, 0, 73, some 17, fun cs => cs.length = 4, fun cs => isE (Value.agg (List.toArray cs)) ((z) - (c))⟩ (by simp) 12 13 rfl rfl (by decide) (hL 12 (by decide)) (hL 13 (by decide)) (by rw [hb_n9, hb_n10, e])
  have ne_n9_n11 : n9 ≠ n11 := fun e => hI.apart ⟨some 12, 0, 73, some 16, fun cs => cs.length = 4, fun cs => isE (Value.agg (List.toArray cs)) ((b) - (a))⟩ (by simp) ⟨some 14, 0, 73, some 18, fun cs => cs.length = 4, fun cs => isE (Value.agg (List.toArray cs)) ((z) + (c))⟩ (by simp) 12 14 rfl rfl (by decide) (hL 12 (by decide)) (hL 14 (by decide)) (by rw [hb_n9, hb_n11, e])
  have ne_n9_n12 : n9 ≠ n12 := fun e => hI.apart ⟨some 12, 0, 73, some 16, fun cs => cs.length = 4, fun cs => isE (Value.agg (List.toArray cs)) ((b) - (a))⟩ (by simp) ⟨some 15, 0, 73, some 19, fun cs => cs.length = 4, fun cs => isE (Value.agg (List.toArray cs)) ((b) + (a))⟩ (by simp) 12 15 rfl rfl (by decide) (hL 12 (by decide)) (hL 15 (by decide)) (by rw [hb_n9, hb_n12, e])
  have ne_n10_n11 : n10 ≠ n11 := fun e => hI.apart ⟨some 13, 0, 73, some 17, fun cs => cs.length = 4, fun cs => isE (Value.agg (List.toArray cs)) ((z) - (c))⟩ (by simp) ⟨some 14, 0, 73, some 18, fun cs => cs.length = 4, fun cs => isE (Value.agg (List.toArray cs)) ((z) + (c))⟩ (by simp) 13 14 rfl rfl (by decide) (hL 13 (by decide)) (hL 14 (by decide)) (by rw [hb_n10, hb_n11, e])
  have ne_n10_n12 : n10 ≠ n12 := fun e => hI.apart ⟨some 13, 0, 73, some 17, fun cs => cs.length = 4, fun cs => isE (Value.agg (List.toArray cs)) ((z) - (c))⟩ (by simp) ⟨some 15, 0, 73, some 19, fun cs => cs.length = 4, fun cs => isE (Value.agg (List.toArray cs)) ((b) + (a))⟩ (by simp) 13 15 rfl rfl (by decide) (hL 13 (by decide)) (hL 15 (by decide)) (by rw [hb_n10, hb_n12, e])
  have ne_n11_n12 : n11 ≠ n12 := fun e => hI.apart ⟨some 14, 0, 73, some 18, fun cs => cs.length = 4, fun cs => isE (Value.agg (List.toArray cs)) ((z) + (c))⟩ (by simp) ⟨some 15, 0, 73, some 19, fun cs => cs.length = 4, fun cs => isE (Value.agg (List.toArray cs)) ((b) + (a))⟩ (by simp) 14 15 rfl rfl (by decide) (hL 14 (by decide)) (hL 15 (by decide)) (by rw [hb_n11, hb_n12, e])
  have ne_bu_n9 : bu ≠ n9 := Nat.ne_of_lt (Nat.lt_of_lt_of_le lt_bu lo_n9)
  have ne_bv_n9 : bv ≠ n9 := Nat.ne_of_lt (Nat.lt_of_lt_of_le lt_bv lo_n9)
  have ne_r_n9 : r ≠ n9 := Nat.ne_of_lt (Nat.lt_of_lt_of_le lt_r lo_n9)
  have ne_n5_n9 : n5 ≠ n9 := Nat.ne_of_lt (Nat.lt_of_lt_of_le lt_n5 lo_n9)
  have ne_n6_n9 : n6 ≠ n9 := Nat.ne_of_lt (Nat.lt_of_lt_of_le lt_n6 lo_n9)
  have ne_n7_n9 : n7 ≠ n9 := Nat.ne_of_lt (Nat.lt_of_lt_of_le lt_n7 lo_n9)
  have ne_n8_n9 : n8 ≠ n9 := Nat.ne_of_lt (Nat.lt_of_lt_of_le lt_n8 lo_n9)
  have ne_bu_n10 : bu ≠ n10 := Nat.ne_of_lt (Nat.lt_of_lt_of_le lt_bu lo_n10)
  have ne_bv_n10 : bv ≠ n10 := Nat.ne_of_lt (Nat.lt_of_lt_of_le lt_bv lo_n10)
  have ne_r_n10 : r ≠ n10 := Nat.ne_of_lt (Nat.lt_of_lt_of_le lt_r lo_n10)
  have ne_n5_n10 : n5 ≠ n10 := Nat.ne_of_lt (Nat.lt_of_lt_of_le lt_n5 lo_n10)
  have ne_n6_n10 : n6 ≠ n10 := Nat.ne_of_lt (Nat.lt_of_lt_of_le lt_n6 lo_n10)
  have ne_n7_n10 : n7 ≠ n10 := Nat.ne_of_lt (Nat.lt_of_lt_of_le lt_n7 lo_n10)
  have ne_n8_n10 : n8 ≠ n10 := Nat.ne_of_lt (Nat.lt_of_lt_of_le lt_n8 lo_n10)
  have ne_bu_n11 : bu ≠ n11 := Nat.ne_of_lt (Nat.lt_of_lt_of_le lt_bu lo_n11)
  have ne_bv_n11 : bv ≠ n11 := Nat.ne_of_lt (Nat.lt_of_lt_of_le lt_bv lo_n11)
  have ne_r_n11 : r ≠ n11 := Nat.ne_of_lt (Nat.lt_of_lt_of_le lt_r lo_n11)
  have ne_n5_n11 : n5 ≠ n11 := Nat.ne_of_lt (Nat.lt_of_lt_of_le lt_n5 lo_n11)
  have ne_n6_n11 : n6 ≠ n11 := Nat.ne_of_lt (Nat.lt_of_lt_of_le lt_n6 lo_n11)
  have ne_n7_n11 : n7 ≠ n11 := Nat.ne_of_lt (Nat.lt_of_lt_of_le lt_n7 lo_n11)
  have ne_n8_n11 : n8 ≠ n11 := Nat.ne_of_lt (Nat.lt_of_lt_of_le lt_n8 lo_n11)
  have ne_bu_n12 : bu ≠ n12 := Nat.ne_of_lt (Nat.lt_of_lt_of_le lt_bu lo_n12)
  have ne_bv_n12 : bv ≠ n12 := Nat.ne_of_lt (Nat.lt_of_lt_of_le lt_bv lo_n12)
  have ne_r_n12 : r ≠ n12 := Nat.ne_of_lt (Nat.lt_of_lt_of_le lt_r lo_n12)
  have ne_n5_n12 : n5 ≠ n12 := Nat.ne_of_lt (Nat.lt_of_lt_of_le lt_n5 lo_n12)
  have ne_n6_n12 : n6 ≠ n12 := Nat.ne_of_lt (Nat.lt_of_lt_of_le lt_n6 lo_n12)
  have ne_n7_n12 : n7 ≠ n12 := Nat.ne_of_lt (Nat.lt_of_lt_of_le lt_n7 lo_n12)
  have ne_n8_n12 : n8 ≠ n12 := Nat.ne_of_lt (Nat.lt_of_lt_of_le lt_n8 lo_n12)
  replace lt_bu := Nat.lt_of_lt_of_le lt_bu hI.keep.size
  replace lt_bv := Nat.lt_of_lt_of_le lt_bv hI.keep.size
  replace lt_r := Nat.lt_of_lt_of_le lt_r hI.keep.size
  replace lt_n5 := Nat.lt_of_lt_of_le lt_n5 hI.keep.size
  replace lt_n6 := Nat.lt_of_lt_of_le lt_n6 hI.keep.size
  replace lt_n7 := Nat.lt_of_lt_of_le lt_n7 hI.keep.size
  replace lt_n8 := Nat.lt_of_lt_of_le lt_n8 hI.keep.size
  have hx' : Ext w W7 := hx.trans hI.keep.to_ext
  have lt_n9 : n9 < W7.heap.size := R_n9.lt
  have bs_n9 : w.heap.size ≤ n9 := Nat.le_trans hx.size lo_n9
  have lt_n10 : n10 < W7.heap.size := R_n10.lt
  have bs_n10 : w.heap.size ≤ n10 := Nat.le_trans hx.size lo_n10
  have lt_n11 : n11 < W7.heap.size := R_n11.lt
  have bs_n11 : w.heap.size ≤ n11 := Nat.le_trans hx.size lo_n11
  have lt_n12 : n12 < W7.heap.size := R_n12.lt
  have bs_n12 : w.heap.size ≤ n12 := Nat.le_trans hx.size lo_n12
  clear hx hI hL hok L
  have hx := hx'
  clear hx'
  obtain ⟨e, q_e⟩ : ∃ x, x = (b) - (a) := ⟨_, rfl⟩
  rw [← q_e] at R_n9
  replace q_e := Lib.hid q_e
  obtain ⟨f, q_f⟩ : ∃ x, x = (z) - (c) := ⟨_, rfl⟩
  rw [← q_f] at R_n10
  replace q_f := Lib.hid q_f
  obtain ⟨g, q_g⟩ : ∃ x, x = (z) + (c) := ⟨_, rfl⟩
  rw [← q_g] at R_n11
  replace q_g := Lib.hid q_g
  obtain ⟨h, q_h⟩ : ∃ x, x = (b) + (a) := ⟨_, rfl⟩
  rw [← q_h] at R_n12
  replace q_h := Lib.hid q_h
  simp only [putP, Act.put, List.setIfInBounds_toArray, List.set_cons_zero, List.set_cons_succ, hb_n9, hb_n10, hb_n11, hb_n12]
  go_upto_region 7 with fail
  have hok : TrsOk [r] W7.heap.size ([⟨none, r, 91, some 14, fun cs => cs.length = 16, fun cs => isW (Value.agg (List.toArray cs)) ((e) * (f)) ((g) * (h)) ((f) * (g)) ((e) * (h))⟩] : List Trk) := ⟨by simp [R_r.lt], by simp, by simp, by simp⟩
  refine wp_region_plan (Inv [r] (fun j u => match j with | 0 => isE u (e) | 1 => isE u (f) | 2 => isE u ((e) * (f)) | 3 => isE u (g) | 4 => isE u (h) | 5 => isE u ((g) * (h)) | 6 => isFl u ((e) * (f)) ((g) * (h)) | 7 => isE u (f) | 8 => isE u (g) | 9 => isE u ((f) * (g)) | 10 => isE u (e) | 11 => isE u (h) | 12 => isE u ((e) * (h)) | 13 => isW u ((e) * (f)) ((g) * (h)) ((f) * (g)) ((e) * (h)) | _ => True) [⟨none, r, 91, some 14, fun cs => cs.length = 16, fun cs => isW (Value.agg (List.toArray cs)) ((e) * (f)) ((g) * (h)) ((f) * (g)) ((e) * (h))⟩] W7) plan_83_7 [(70, 0), (71, 1), (72, 2), (73, 3), (74, 4), (75, 5), (76, 6), (77, 7), (78, 8), (79, 9), (80, 10), (81, 11), (82, 12), (83, 13)] 84 (by kernel_rfl) rfl (by kernel_rfl) (Inv.start hok (by
      simp only [List.forall_mem_cons, List.not_mem_nil, false_implies, implies_true, and_true]
      exact fun _ => R_r)) ⟨?_, ?_, ?_, ?_, ?_, ?_, ?_, ?_, ?_, ?_, ?_, ?_, ?_, ?_, ?_, trivial⟩ ?_
  · intro L v w hL hD hC hI
    refine ⟨fun _ => ?_, fun hw => by cases hw⟩
    refine hI.val_step hL (by simp) ?_
    rw [show readsOf plan_83_7 0 = [] from rfl]
    exact ld_E (R_n9.keep hI.keep (by simp [ne_r_n9, Ne.symm ne_r_n9])) _ rfl rfl fun u hu => ⟨hu, Ext.refl _⟩
  · intro L v w hL hD hC hI
    refine ⟨fun _ => ?_, fun hw => by cases hw⟩
    refine hI.val_step hL (by simp) ?_
    rw [show readsOf plan_83_7 1 = [] from rfl]
    exact ld_E (R_n10.keep hI.keep (by simp [ne_r_n10, Ne.symm ne_r_n10])) _ rfl rfl fun u hu => ⟨hu, Ext.refl _⟩
  · intro L v w hL hD hC hI
    refine ⟨fun _ => ?_, fun hw => by cases hw⟩
    have h0 : isE (v 0) (e) := hI.val 0 (hD 0 (by decide))
    have h1 : isE (v 1) (f) := hI.val 1 (hD 1 (by decide))
    refine hI.val_step hL (by simp) ?_
    rw [show readsOf plan_83_7 2 = [(70, 0), (71, 1)] from rfl]
    refine give_call _ _ _ _ rfl rfl Try.func70 (by kernel_rfl) (by kernel_rfl) ?_
    refine Calls.mono (emul h0 h1 w) ?_
    rintro e w' ⟨r, rfl, hr, hx⟩
    exact ⟨r, rfl, hr, hx⟩
  · intro L v w hL hD hC hI
    refine ⟨fun _ => ?_, fun hw => by cases hw⟩
    refine hI.val_step hL (by simp) ?_
    rw [show readsOf plan_83_7 3 = [] from rfl]
    exact ld_E (R_n11.keep hI.keep (by simp [ne_r_n11, Ne.symm ne_r_n11])) _ rfl rfl fun u hu => ⟨hu, Ext.refl _⟩
  · intro L v w hL hD hC hI
    refine ⟨fun _ => ?_, fun hw => by cases hw⟩
    refine hI.val_step hL (by simp) ?_
    rw [show readsOf plan_83_7 4 = [] from rfl]
    exact ld_E (R_n12.keep hI.keep (by simp [ne_r_n12, Ne.symm ne_r_n12])) _ rfl rfl fun u hu => ⟨hu, Ext.refl _⟩
  · intro L v w hL hD hC hI
    refine ⟨fun _ => ?_, fun hw => by cases hw⟩
    have h3 : isE (v 3) (g) := hI.val 3 (hD 3 (by decide))
    have h4 : isE (v 4) (h) := hI.val 4 (hD 4 (by decide))
    refine hI.val_step hL (by simp) ?_
    rw [show readsOf plan_83_7 5 = [(73, 3), (74, 4)] from rfl]
    refine give_call _ _ _ _ rfl rfl Try.func70 (by kernel_rfl) (by kernel_rfl) ?_
    refine Calls.mono (emul h3 h4 w) ?_
    rintro e w' ⟨r, rfl, hr, hx⟩
    exact ⟨r, rfl, hr, hx⟩
  · intro L v w hL hD hC hI
    refine ⟨fun _ => ?_, fun hw => by cases hw⟩
    have h2 : isE (v 2) ((e) * (f)) := hI.val 2 (hD 2 (by decide))
    have h5 : isE (v 5) ((g) * (h)) := hI.val 5 (hD 5 (by decide))
    refine hI.val_step hL (by simp) ?_
    rw [show readsOf plan_83_7 6 = [(72, 2), (75, 5)] from rfl]
    obtain ⟨x0, x1, x2, x3, g2, ex0⟩ := h2
    obtain ⟨y0, y1, y2, y3, g5, ey0⟩ := h5
    simp only [putP, Act.put, List.setIfInBounds_toArray, List.set_cons_zero, List.set_cons_succ, g2, g5]
    go_simp
    exact ⟨⟨x0, x1, x2, x3, y0, y1, y2, y3, rfl, ex0, ey0⟩, Ext.refl _⟩
  · intro L v w hL hD hC hI
    refine ⟨fun _ => ?_, fun hw => by cases hw⟩
    refine hI.val_step hL (by simp) ?_
    rw [show readsOf plan_83_7 7 = [] from rfl]
    exact ld_E (R_n10.keep hI.keep (by simp [ne_r_n10, Ne.symm ne_r_n10])) _ rfl rfl fun u hu => ⟨hu, Ext.refl _⟩
  · intro L v w hL hD hC hI
    refine ⟨fun _ => ?_, fun hw => by cases hw⟩
    refine hI.val_step hL (by simp) ?_
    rw [show readsOf plan_83_7 8 = [] from rfl]
    exact ld_E (R_n11.keep hI.keep (by simp [ne_r_n11, Ne.symm ne_r_n11])) _ rfl rfl fun u hu => ⟨hu, Ext.refl _⟩
  · intro L v w hL hD hC hI
    refine ⟨fun _ => ?_, fun hw => by cases hw⟩
    have h7 : isE (v 7) (f) := hI.val 7 (hD 7 (by decide))
    have h8 : isE (v 8) (g) := hI.val 8 (hD 8 (by decide))
    refine hI.val_step hL (by simp) ?_
    rw [show readsOf plan_83_7 9 = [(77, 7), (78, 8)] from rfl]
    refine give_call _ _ _ _ rfl rfl Try.func70 (by kernel_rfl) (by kernel_rfl) ?_
    refine Calls.mono (emul h7 h8 w) ?_
    rintro e w' ⟨r, rfl, hr, hx⟩
    exact ⟨r, rfl, hr, hx⟩
  · intro L v w hL hD hC hI
    refine ⟨fun _ => ?_, fun hw => by cases hw⟩
    refine hI.val_step hL (by simp) ?_
    rw [show readsOf plan_83_7 10 = [] from rfl]
    exact ld_E (R_n9.keep hI.keep (by simp [ne_r_n9, Ne.symm ne_r_n9])) _ rfl rfl fun u hu => ⟨hu, Ext.refl _⟩
  · intro L v w hL hD hC hI
    refine ⟨fun _ => ?_, fun hw => by cases hw⟩
    refine hI.val_step hL (by simp) ?_
    rw [show readsOf plan_83_7 11 = [] from rfl]
    exact ld_E (R_n12.keep hI.keep (by simp [ne_r_n12, Ne.symm ne_r_n12])) _ rfl rfl fun u hu => ⟨hu, Ext.refl _⟩
  · intro L v w hL hD hC hI
    refine ⟨fun _ => ?_, fun hw => by cases hw⟩
    have h10 : isE (v 10) (e) := hI.val 10 (hD 10 (by decide))
    have h11 : isE (v 11) (h) := hI.val 11 (hD 11 (by decide))
    refine hI.val_step hL (by simp) ?_
    rw [show readsOf plan_83_7 12 = [(80, 10), (81, 11)] from rfl]
    refine give_call _ _ _ _ rfl rfl Try.func70 (by kernel_rfl) (by kernel_rfl) ?_
    refine Calls.mono (emul h10 h11 w) ?_
    rintro e w' ⟨r, rfl, hr, hx⟩
    exact ⟨r, rfl, hr, hx⟩
  · intro L v w hL hD hC hI
    refine ⟨fun _ => ?_, fun hw => by cases hw⟩
    have h6 : isFl (v 6) ((e) * (f)) ((g) * (h)) := hI.val 6 (hD 6 (by decide))
    have h9 : isE (v 9) ((f) * (g)) := hI.val 9 (hD 9 (by decide))
    have h12 : isE (v 12) ((e) * (h)) := hI.val 12 (hD 12 (by decide))
    refine hI.val_step hL (by simp) ?_
    rw [show readsOf plan_83_7 13 = [(76, 6), (79, 9), (82, 12)] from rfl]
    obtain ⟨x0, x1, x2, x3, x4, x5, x6, x7, g6, ex0, ex1⟩ := h6
    obtain ⟨y0, y1, y2, y3, g9, ey0⟩ := h9
    obtain ⟨z0, z1, z2, z3, g12, ez0⟩ := h12
    simp only [putP, Act.put, List.setIfInBounds_toArray, List.set_cons_zero, List.set_cons_succ, g6, g9, g12]
    go_simp
    exact ⟨⟨x0, x1, x2, x3, x4, x5, x6, x7, y0, y1, y2, y3, z0, z1, z2, z3, rfl, ex0, ex1, ey0, ez0⟩, Ext.refl _⟩
  · intro L v w hL hD hC hI
    refine ⟨fun _ => ?_, fun hw => by cases hw⟩
    have h13 : isW (v 13) ((e) * (f)) ((g) * (h)) ((f) * (g)) ((e) * (h)) := hI.val 13 (hD 13 (by decide))
    refine hI.store_step hok hL ⟨none, r, 91, some 14, fun cs => cs.length = 16, fun cs => isW (Value.agg (List.toArray cs)) ((e) * (f)) ((g) * (h)) ((f) * (g)) ((e) * (h))⟩ (by simp) rfl (by simp) (by intro k hk; cases hk) ?_
    intro n cs hb hR hold
    change n = r at hb
    subst hb
    rw [show readsOf plan_83_7 14 = [(83, 13)] from rfl]
    exact st_W hR hold _ _ rfl rfl h13 fun w' cs' hr he hk => ⟨trivial, hk, cs', hr, he⟩
  intro L v8 W8 hL hI
  have N_r : RV W8 r 91 (fun u => isW u ((e) * (f)) ((g) * (h)) ((f) * (g)) ((e) * (h))) := hI.row_new ⟨none, r, 91, some 14, fun cs => cs.length = 16, fun cs => isW (Value.agg (List.toArray cs)) ((e) * (f)) ((g) * (h)) ((f) * (g)) ((e) * (h))⟩ (by simp) rfl 14 rfl (hL 14 (by decide))
  replace R_bu := R_bu.keep hI.keep (by simp [ne_bu_r, Ne.symm ne_bu_r])
  replace R_bv := R_bv.keep hI.keep (by simp [ne_bv_r, Ne.symm ne_bv_r])
  replace R_n5 := R_n5.keep hI.keep (by simp [ne_r_n5, Ne.symm ne_r_n5])
  replace R_n6 := R_n6.keep hI.keep (by simp [ne_r_n6, Ne.symm ne_r_n6])
  replace R_n7 := R_n7.keep hI.keep (by simp [ne_r_n7, Ne.symm ne_r_n7])
  replace R_n8 := R_n8.keep hI.keep (by simp [ne_r_n8, Ne.symm ne_r_n8])
  replace R_n9 := R_n9.keep hI.keep (by simp [ne_r_n9, Ne.symm ne_r_n9])
  replace R_n10 := R_n10.keep hI.keep (by simp [ne_r_n10, Ne.symm ne_r_n10])
  replace R_n11 := R_n11.keep hI.keep (by simp [ne_r_n11, Ne.symm ne_r_n11])
  replace R_n12 := R_n12.keep hI.keep (by simp [ne_r_n12, Ne.symm ne_r_n12])
  clear R_r
  have R_r := N_r
  clear N_r
  replace lt_bu := Nat.lt_of_lt_of_le lt_bu hI.keep.size
  replace lt_bv := Nat.lt_of_lt_of_le lt_bv hI.keep.size
  replace lt_r := Nat.lt_of_lt_of_le lt_r hI.keep.size
  replace lt_n5 := Nat.lt_of_lt_of_le lt_n5 hI.keep.size
  replace lt_n6 := Nat.lt_of_lt_of_le lt_n6 hI.keep.size
  replace lt_n7 := Nat.lt_of_lt_of_le lt_n7 hI.keep.size
  replace lt_n8 := Nat.lt_of_lt_of_le lt_n8 hI.keep.size
  replace lt_n9 := Nat.lt_of_lt_of_le lt_n9 hI.keep.size
  replace lt_n10 := Nat.lt_of_lt_of_le lt_n10 hI.keep.size
  replace lt_n11 := Nat.lt_of_lt_of_le lt_n11 hI.keep.size
  replace lt_n12 := Nat.lt_of_lt_of_le lt_n12 hI.keep.size
  have hx' : Ext w W8 := Ext.keep_ hx hI.keep (by simp only [List.forall_mem_cons, List.not_mem_nil, false_implies, implies_true, and_true]; exact bs_r)
  clear hx hI hL hok L
  have hx := hx'
  clear hx'
  simp only [putP, Act.put, List.setIfInBounds_toArray, List.set_cons_zero, List.set_cons_succ]
  go_wp2
  replace q_z := q_z.out
  rw [q_z0.out] at q_z
  obtain ⟨cs, hr, hv⟩ := R_r
  replace hv : isW (Value.agg (List.toArray cs)) ((e) * (f)) ((g) * (h)) ((f) * (g)) ((e) * (h)) := hv
  obtain ⟨fs, hu'⟩ := uWd
  refine bodyPost_ret (results_cell_row (p := 4) (ty := 91) rfl _ _ r 91 _ (0, 0) _ rfl hr hu' rfl (by rw [List.size_toArray, isW_len hv]; exact iWd)) rfl ?_
  exact ⟨_, rfl, ⟨_, _, _, _, hv, Rep.plus hP hQ q_a.out q_b.out q_c.out q_z q_e.out q_f.out q_g.out q_h.out⟩, hx⟩
end Go.Proofs.Ytndohjgfjbopnaa
