/-
  The curve's points: the double walked.
-/
import Derived.Test.YtndohjgfjbopnaaCrvC
set_option linter.unusedSimpArgs false
set_option linter.unusedVariables false
namespace Go.Proofs.Ytndohjgfjbopnaa
open Go.RowKit Go.Cv Go.Cv.Pr Go.Cv.Grp
def plan_86_0 : List Plan := [⟨[], []⟩, ⟨[], []⟩]
def plan_86_1 : List Plan := [⟨[], []⟩, ⟨[0], [(11, 0)]⟩, ⟨[0, 1], [(12, 1)]⟩, ⟨[], []⟩, ⟨[3], [(14, 3)]⟩, ⟨[3, 4], [(15, 4)]⟩, ⟨[0, 1, 2, 3, 4, 5], [(13, 2), (16, 5)]⟩, ⟨[], []⟩, ⟨[7], [(18, 7)]⟩, ⟨[7, 8], [(19, 8)]⟩, ⟨[], []⟩, ⟨[10], [(21, 10)]⟩, ⟨[10, 11], [(22, 11)]⟩, ⟨[0, 1, 2, 3, 4, 5, 6, 7, 8, 9, 10, 11, 12], [(20, 9), (23, 12)]⟩, ⟨[], []⟩, ⟨[14], [(25, 14)]⟩, ⟨[], []⟩, ⟨[16], [(27, 16)]⟩, ⟨[0, 1, 2, 3, 4, 5, 6, 7, 8, 9, 10, 11, 12, 13, 14, 15, 16, 17], [(26, 15), (28, 17)]⟩, ⟨[], []⟩, ⟨[], []⟩, ⟨[], []⟩, ⟨[0, 1, 2, 3, 4, 5, 6, 7, 8, 9, 10, 11, 12, 13, 14, 15, 16, 17, 18, 19, 20, 21], [(17, 6), (3, 19)]⟩, ⟨[0, 1, 2, 3, 4, 5, 6, 7, 8, 9, 10, 11, 12, 13, 14, 15, 16, 17, 18, 19, 20, 21, 22], [(24, 13), (4, 20)]⟩, ⟨[0, 1, 2, 3, 4, 5, 6, 7, 8, 9, 10, 11, 12, 13, 14, 15, 16, 17, 18, 19, 20, 21, 22, 23], [(29, 18), (5, 21)]⟩]
def plan_86_2 : List Plan := [⟨[], []⟩, ⟨[0], [(30, 0)]⟩, ⟨[0, 1], [(31, 1)]⟩, ⟨[], []⟩, ⟨[3], [(33, 3)]⟩, ⟨[3, 4], [(34, 4)]⟩, ⟨[0, 1, 2, 3, 4, 5], [(32, 2), (35, 5)]⟩, ⟨[], []⟩, ⟨[0, 1, 2, 3, 4, 5, 6, 7], [(36, 6), (6, 7)]⟩]
def plan_86_3 : List Plan := [⟨[], []⟩, ⟨[], []⟩, ⟨[0, 1], [(37, 0), (38, 1)]⟩, ⟨[], []⟩, ⟨[0, 1, 2, 3], [(39, 2), (40, 3)]⟩, ⟨[], []⟩, ⟨[0, 1, 2, 3, 4, 5], [(41, 4), (42, 5)]⟩, ⟨[], []⟩, ⟨[0, 1, 2, 3, 4, 5, 6, 7], [(43, 6), (7, 7)]⟩]
def plan_86_4 : List Plan := [⟨[], []⟩, ⟨[], []⟩, ⟨[0, 1], [(44, 0), (45, 1)]⟩, ⟨[], []⟩, ⟨[0, 1, 2, 3], [(46, 2), (8, 3)]⟩]
def plan_86_5 : List Plan := [⟨[], []⟩, ⟨[], []⟩, ⟨[], []⟩, ⟨[1, 2], [(48, 1), (49, 2)]⟩, ⟨[0, 1, 2, 3], [(47, 0), (50, 3)]⟩, ⟨[], []⟩, ⟨[0, 1, 2, 3, 4, 5], [(51, 4), (9, 5)]⟩]
def plan_86_6 : List Plan := [⟨[], []⟩, ⟨[], []⟩, ⟨[0, 1], [(52, 0), (53, 1)]⟩, ⟨[], []⟩, ⟨[0, 1, 2, 3], [(54, 2), (55, 3)]⟩, ⟨[], []⟩, ⟨[0, 1, 2, 3, 4, 5], [(56, 4), (10, 5)]⟩]
def plan_86_7 : List Plan := [⟨[], []⟩, ⟨[], []⟩, ⟨[0, 1], [(57, 0), (58, 1)]⟩, ⟨[], []⟩, ⟨[], []⟩, ⟨[0, 1, 2, 3, 4], [(60, 3), (61, 4)]⟩, ⟨[0, 1, 2, 3, 4, 5], [(59, 2), (62, 5)]⟩, ⟨[], []⟩, ⟨[], []⟩, ⟨[0, 1, 2, 3, 4, 5, 7, 8], [(64, 7), (65, 8)]⟩, ⟨[], []⟩, ⟨[], []⟩, ⟨[0, 1, 2, 3, 4, 5, 7, 8, 9, 10, 11], [(67, 10), (68, 11)]⟩, ⟨[0, 1, 2, 3, 4, 5, 6, 7, 8, 9, 10, 11, 12], [(63, 6), (66, 9), (69, 12)]⟩, ⟨[0, 1, 2, 3, 4, 5, 6, 7, 8, 9, 10, 11, 12, 13], [(70, 13)]⟩]
set_option maxRecDepth 20000 in
set_option maxHeartbeats 8000000 in
theorem wdouble_any {u : Value} {P : P7} (hu : isP u P) (w : World) :
    Calls Try.prog 86 #[u] w fun e w' => ∃ r, e = .returned r ∧ isP r (P.add P) ∧ Ext w w' := by
  obtain ⟨X1, Y1, Z1, T1, hu, hP⟩ := hu
  obtain ⟨c0, rfl, -, -, hc0⟩ := isW_cells hu
  clear hu
  go_enter Try.func86, Try.ntmps86
  have hx : Ext w w := Ext.refl w
  go_upto_region 0 with fail
  have hok : TrsOk [] w.heap.size ([⟨some 0, 0, 91, none, fun cs => isW (Value.agg (List.toArray cs)) (X1) (Y1) (Z1) (T1), fun _ => True⟩, ⟨some 1, 0, 91, none, fun cs => cs.length = 16, fun _ => True⟩] : List Trk) := ⟨by simp, by simp, by simp, by simp⟩
  refine wp_region_text (Inv [] (fun _ _ => True) [⟨some 0, 0, 91, none, fun cs => isW (Value.agg (List.toArray cs)) (X1) (Y1) (Z1) (T1), fun _ => True⟩, ⟨some 1, 0, 91, none, fun cs => cs.length = 16, fun _ => True⟩] w) plan_86_0 [(1, 0), (2, 1)] 71 rfl (by kernel_rfl) (Inv.start0 hok (by simp)) ⟨?_, ?_, trivial⟩ ?_
  · intro L v w hL hD hC hI
    refine ⟨fun _ => ?_, fun hw => by cases hw⟩
    refine hI.alloc_step hok hL ⟨some 0, 0, 91, none, fun cs => isW (Value.agg (List.toArray cs)) (X1) (Y1) (Z1) (T1), fun _ => True⟩ (by simp) rfl (by simp) (by intro s hs; cases hs) ?_
    rw [show readsOf plan_86_0 0 = [] from rfl]
    exact ⟨trivial, rfl, c0.toList, by first | rfl | (rw [Array.toArray_toList]; rfl), hc0⟩
  · intro L v w hL hD hC hI
    refine ⟨fun _ => ?_, fun hw => by cases hw⟩
    refine hI.alloc_step hok hL ⟨some 1, 0, 91, none, fun cs => cs.length = 16, fun _ => True⟩ (by simp) rfl (by simp) (by intro s hs; cases hs) ?_
    rw [show readsOf plan_86_0 1 = [] from rfl]
    go_simp
    first | exact ⟨rfl, _, rfl, by first | rfl | trivial⟩ | exact ⟨trivial, rfl, _, rfl, by first | rfl | trivial⟩ | exact ⟨rfl, (bcells fun _ => 0).toList, by rw [Array.toArray_toList], by simp⟩ | exact ⟨trivial, rfl, (bcells fun _ => 0).toList, by rw [Array.toArray_toList], by simp⟩
  intro L v1 W1 hL hI
  obtain ⟨bu, cs, hb_bu, lo_bu, hr, hn, ho⟩ := hI.row_made ⟨some 0, 0, 91, none, fun cs => isW (Value.agg (List.toArray cs)) (X1) (Y1) (Z1) (T1), fun _ => True⟩ (by simp) 0 rfl (hL 0 (by decide))
  have R_bu : RV W1 bu 91 (fun u => isW u (X1) (Y1) (Z1) (T1)) := ⟨cs, hr, ho (by intro s hs; cases hs)⟩
  clear hr hn ho
  obtain ⟨r, cs, hb_r, lo_r, hr, hn, ho⟩ := hI.row_made ⟨some 1, 0, 91, none, fun cs => cs.length = 16, fun _ => True⟩ (by simp) 1 rfl (hL 1 (by decide))
  have R_r : RL W1 r 91 16 := ⟨cs, hr, ho (by intro s hs; cases hs)⟩
  clear hr hn ho
  have ne_bu_r : bu ≠ r := fun e => hI.apart ⟨some 0, 0, 91, none, fun cs => isW (Value.agg (List.toArray cs)) (X1) (Y1) (Z1) (T1), fun _ => True⟩ (by simp) ⟨some 1, 0, 91, none, fun cs => cs.length = 16, fun _ => True⟩ (by simp) 0 1 rfl rfl (by decide) (hL 0 (by decide)) (hL 1 (by decide)) (by rw [hb_bu, hb_r, e])
  have hx' : Ext w W1 := hx.trans hI.keep.to_ext
  have lt_bu : bu < W1.heap.size := R_bu.lt
  have bs_bu : w.heap.size ≤ bu := Nat.le_trans hx.size lo_bu
  have lt_r : r < W1.heap.size := R_r.lt
  have bs_r : w.heap.size ≤ r := Nat.le_trans hx.size lo_r
  clear hx hI hL hok L
  have hx := hx'
  clear hx'
  simp only [putP, Act.put, List.setIfInBounds_toArray, List.set_cons_zero, List.set_cons_succ, hb_bu, hb_r]
  go_upto_region 1 with fail
  have hok : TrsOk [] W1.heap.size ([⟨some 19, 0, 73, some 22, fun cs => cs.length = 4, fun cs => isE (Value.agg (List.toArray cs)) ((X1) * (X1))⟩, ⟨some 20, 0, 73, some 23, fun cs => cs.length = 4, fun cs => isE (Value.agg (List.toArray cs)) ((Y1) * (Y1))⟩, ⟨some 21, 0, 73, some 24, fun cs => cs.length = 4, fun cs => isE (Value.agg (List.toArray cs)) ((Z1) * (Z1))⟩] : List Trk) := ⟨by simp, by simp, by simp, by simp⟩
  refine wp_region_plan (Inv [] (fun j u => match j with | 0 => u = .pointer (some ⟨bu, 0, none⟩) | 1 => u = .pointer (some ⟨bu, 0, none⟩) | 2 => isE u (X1) | 3 => u = .pointer (some ⟨bu, 0, none⟩) | 4 => u = .pointer (some ⟨bu, 0, none⟩) | 5 => isE u (X1) | 6 => isE u ((X1) * (X1)) | 7 => u = .pointer (some ⟨bu, 0, none⟩) | 8 => u = .pointer (some ⟨bu, 4, none⟩) | 9 => isE u (Y1) | 10 => u = .pointer (some ⟨bu, 0, none⟩) | 11 => u = .pointer (some ⟨bu, 4, none⟩) | 12 => isE u (Y1) | 13 => isE u ((Y1) * (Y1)) | 14 => u = .pointer (some ⟨bu, 8, none⟩) | 15 => isE u (Z1) | 16 => u = .pointer (some ⟨bu, 8, none⟩) | 17 => isE u (Z1) | 18 => isE u ((Z1) * (Z1)) | _ => True) [⟨some 19, 0, 73, some 22, fun cs => cs.length = 4, fun cs => isE (Value.agg (List.toArray cs)) ((X1) * (X1))⟩, ⟨some 20, 0, 73, some 23, fun cs => cs.length = 4, fun cs => isE (Value.agg (List.toArray cs)) ((Y1) * (Y1))⟩, ⟨some 21, 0, 73, some 24, fun cs => cs.length = 4, fun cs => isE (Value.agg (List.toArray cs)) ((Z1) * (Z1))⟩] W1) plan_86_1 [(11, 0), (12, 1), (13, 2), (14, 3), (15, 4), (16, 5), (17, 6), (18, 7), (19, 8), (20, 9), (21, 10), (22, 11), (23, 12), (24, 13), (25, 14), (26, 15), (27, 16), (28, 17), (29, 18), (3, 19), (4, 20), (5, 21)] 71 (by kernel_rfl) rfl (by kernel_rfl) (Inv.start hok (by simp)) ⟨?_, ?_, ?_, ?_, ?_, ?_, ?_, ?_, ?_, ?_, ?_, ?_, ?_, ?_, ?_, ?_, ?_, ?_, ?_, ?_, ?_, ?_, ?_, ?_, ?_, trivial⟩ ?_
  · intro L v w hL hD hC hI
    refine ⟨fun _ => ?_, fun hw => by cases hw⟩
    refine hI.val_step hL (by simp) ?_
    rw [show readsOf plan_86_1 0 = [] from rfl]
    go_simp
    exact ⟨rfl, Ext.refl _⟩
  · intro L v w hL hD hC hI
    refine ⟨fun _ => ?_, fun hw => by cases hw⟩
    have h0 : (v 0) = .pointer (some ⟨bu, 0, none⟩) := hI.val 0 (hD 0 (by decide))
    refine hI.val_step hL (by simp) ?_
    rw [show readsOf plan_86_1 1 = [(11, 0)] from rfl]
    simp only [putP, Act.put, List.setIfInBounds_toArray, List.set_cons_zero, List.set_cons_succ, h0]
    go_simp
    exact ⟨rfl, Ext.refl _⟩
  · intro L v w hL hD hC hI
    refine ⟨fun _ => ?_, fun hw => by cases hw⟩
    have h1 : (v 1) = .pointer (some ⟨bu, 0, none⟩) := hI.val 1 (hD 1 (by decide))
    refine hI.val_step hL (by simp) ?_
    rw [show readsOf plan_86_1 2 = [(12, 1)] from rfl]
    exact ld_Wx (R_bu.keep hI.keep (by simp)) _ rfl h1 fun u hu => ⟨hu, Ext.refl _⟩
  · intro L v w hL hD hC hI
    refine ⟨fun _ => ?_, fun hw => by cases hw⟩
    refine hI.val_step hL (by simp) ?_
    rw [show readsOf plan_86_1 3 = [] from rfl]
    go_simp
    exact ⟨rfl, Ext.refl _⟩
  · intro L v w hL hD hC hI
    refine ⟨fun _ => ?_, fun hw => by cases hw⟩
    have h3 : (v 3) = .pointer (some ⟨bu, 0, none⟩) := hI.val 3 (hD 3 (by decide))
    refine hI.val_step hL (by simp) ?_
    rw [show readsOf plan_86_1 4 = [(14, 3)] from rfl]
    simp only [putP, Act.put, List.setIfInBounds_toArray, List.set_cons_zero, List.set_cons_succ, h3]
    go_simp
    exact ⟨rfl, Ext.refl _⟩
  · intro L v w hL hD hC hI
    refine ⟨fun _ => ?_, fun hw => by cases hw⟩
    have h4 : (v 4) = .pointer (some ⟨bu, 0, none⟩) := hI.val 4 (hD 4 (by decide))
    refine hI.val_step hL (by simp) ?_
    rw [show readsOf plan_86_1 5 = [(15, 4)] from rfl]
    exact ld_Wx (R_bu.keep hI.keep (by simp)) _ rfl h4 fun u hu => ⟨hu, Ext.refl _⟩
  · intro L v w hL hD hC hI
    refine ⟨fun _ => ?_, fun hw => by cases hw⟩
    have h2 : isE (v 2) (X1) := hI.val 2 (hD 2 (by decide))
    have h5 : isE (v 5) (X1) := hI.val 5 (hD 5 (by decide))
    refine hI.val_step hL (by simp) ?_
    rw [show readsOf plan_86_1 6 = [(13, 2), (16, 5)] from rfl]
    refine give_call _ _ _ _ rfl rfl Try.func70 (by kernel_rfl) (by kernel_rfl) ?_
    refine Calls.mono (emul h2 h5 w) ?_
    rintro e w' ⟨r, rfl, hr, hx⟩
    exact ⟨r, rfl, hr, hx⟩
  · intro L v w hL hD hC hI
    refine ⟨fun _ => ?_, fun hw => by cases hw⟩
    refine hI.val_step hL (by simp) ?_
    rw [show readsOf plan_86_1 7 = [] from rfl]
    go_simp
    exact ⟨rfl, Ext.refl _⟩
  · intro L v w hL hD hC hI
    refine ⟨fun _ => ?_, fun hw => by cases hw⟩
    have h7 : (v 7) = .pointer (some ⟨bu, 0, none⟩) := hI.val 7 (hD 7 (by decide))
    refine hI.val_step hL (by simp) ?_
    rw [show readsOf plan_86_1 8 = [(18, 7)] from rfl]
    simp only [putP, Act.put, List.setIfInBounds_toArray, List.set_cons_zero, List.set_cons_succ, h7]
    go_simp
    exact ⟨rfl, Ext.refl _⟩
  · intro L v w hL hD hC hI
    refine ⟨fun _ => ?_, fun hw => by cases hw⟩
    have h8 : (v 8) = .pointer (some ⟨bu, 4, none⟩) := hI.val 8 (hD 8 (by decide))
    refine hI.val_step hL (by simp) ?_
    rw [show readsOf plan_86_1 9 = [(19, 8)] from rfl]
    exact ld_Wy (R_bu.keep hI.keep (by simp)) _ rfl h8 fun u hu => ⟨hu, Ext.refl _⟩
  · intro L v w hL hD hC hI
    refine ⟨fun _ => ?_, fun hw => by cases hw⟩
    refine hI.val_step hL (by simp) ?_
    rw [show readsOf plan_86_1 10 = [] from rfl]
    go_simp
    exact ⟨rfl, Ext.refl _⟩
  · intro L v w hL hD hC hI
    refine ⟨fun _ => ?_, fun hw => by cases hw⟩
    have h10 : (v 10) = .pointer (some ⟨bu, 0, none⟩) := hI.val 10 (hD 10 (by decide))
    refine hI.val_step hL (by simp) ?_
    rw [show readsOf plan_86_1 11 = [(21, 10)] from rfl]
    simp only [putP, Act.put, List.setIfInBounds_toArray, List.set_cons_zero, List.set_cons_succ, h10]
    go_simp
    exact ⟨rfl, Ext.refl _⟩
  · intro L v w hL hD hC hI
    refine ⟨fun _ => ?_, fun hw => by cases hw⟩
    have h11 : (v 11) = .pointer (some ⟨bu, 4, none⟩) := hI.val 11 (hD 11 (by decide))
    refine hI.val_step hL (by simp) ?_
    rw [show readsOf plan_86_1 12 = [(22, 11)] from rfl]
    exact ld_Wy (R_bu.keep hI.keep (by simp)) _ rfl h11 fun u hu => ⟨hu, Ext.refl _⟩
  · intro L v w hL hD hC hI
    refine ⟨fun _ => ?_, fun hw => by cases hw⟩
    have h9 : isE (v 9) (Y1) := hI.val 9 (hD 9 (by decide))
    have h12 : isE (v 12) (Y1) := hI.val 12 (hD 12 (by decide))
    refine hI.val_step hL (by simp) ?_
    rw [show readsOf plan_86_1 13 = [(20, 9), (23, 12)] from rfl]
    refine give_call _ _ _ _ rfl rfl Try.func70 (by kernel_rfl) (by kernel_rfl) ?_
    refine Calls.mono (emul h9 h12 w) ?_
    rintro e w' ⟨r, rfl, hr, hx⟩
    exact ⟨r, rfl, hr, hx⟩
  · intro L v w hL hD hC hI
    refine ⟨fun _ => ?_, fun hw => by cases hw⟩
    refine hI.val_step hL (by simp) ?_
    rw [show readsOf plan_86_1 14 = [] from rfl]
    go_simp
    exact ⟨rfl, Ext.refl _⟩
  · intro L v w hL hD hC hI
    refine ⟨fun _ => ?_, fun hw => by cases hw⟩
    have h14 : (v 14) = .pointer (some ⟨bu, 8, none⟩) := hI.val 14 (hD 14 (by decide))
    refine hI.val_step hL (by simp) ?_
    rw [show readsOf plan_86_1 15 = [(25, 14)] from rfl]
    exact ld_Wz (R_bu.keep hI.keep (by simp)) _ rfl h14 fun u hu => ⟨hu, Ext.refl _⟩
  · intro L v w hL hD hC hI
    refine ⟨fun _ => ?_, fun hw => by cases hw⟩
    refine hI.val_step hL (by simp) ?_
    rw [show readsOf plan_86_1 16 = [] from rfl]
    go_simp
    exact ⟨rfl, Ext.refl _⟩
  · intro L v w hL hD hC hI
    refine ⟨fun _ => ?_, fun hw => by cases hw⟩
    have h16 : (v 16) = .pointer (some ⟨bu, 8, none⟩) := hI.val 16 (hD 16 (by decide))
    refine hI.val_step hL (by simp) ?_
    rw [show readsOf plan_86_1 17 = [(27, 16)] from rfl]
    exact ld_Wz (R_bu.keep hI.keep (by simp)) _ rfl h16 fun u hu => ⟨hu, Ext.refl _⟩
  · intro L v w hL hD hC hI
    refine ⟨fun _ => ?_, fun hw => by cases hw⟩
    have h15 : isE (v 15) (Z1) := hI.val 15 (hD 15 (by decide))
    have h17 : isE (v 17) (Z1) := hI.val 17 (hD 17 (by decide))
    refine hI.val_step hL (by simp) ?_
    rw [show readsOf plan_86_1 18 = [(26, 15), (28, 17)] from rfl]
    refine give_call _ _ _ _ rfl rfl Try.func70 (by kernel_rfl) (by kernel_rfl) ?_
    refine Calls.mono (emul h15 h17 w) ?_
    rintro e w' ⟨r, rfl, hr, hx⟩
    exact ⟨r, rfl, hr, hx⟩
  · intro L v w hL hD hC hI
    refine ⟨fun _ => ?_, fun hw => by cases hw⟩
    refine hI.alloc_step hok hL ⟨some 19, 0, 73, some 22, fun cs => cs.length = 4, fun cs => isE (Value.agg (List.toArray cs)) ((X1) * (X1))⟩ (by simp) rfl (by simp) (by intro s hs; cases hs; exact not_yet hC hL (by decide)) ?_
    rw [show readsOf plan_86_1 19 = [] from rfl]
    go_simp
    first | exact ⟨rfl, _, rfl, by first | rfl | trivial⟩ | exact ⟨trivial, rfl, _, rfl, by first | rfl | trivial⟩ | exact ⟨rfl, (bcells fun _ => 0).toList, by rw [Array.toArray_toList], by simp⟩ | exact ⟨trivial, rfl, (bcells fun _ => 0).toList, by rw [Array.toArray_toList], by simp⟩
  · intro L v w hL hD hC hI
    refine ⟨fun _ => ?_, fun hw => by cases hw⟩
    refine hI.alloc_step hok hL ⟨some 20, 0, 73, some 23, fun cs => cs.length = 4, fun cs => isE (Value.agg (List.toArray cs)) ((Y1) * (Y1))⟩ (by simp) rfl (by simp) (by intro s hs; cases hs; exact not_yet hC hL (by decide)) ?_
    rw [show readsOf plan_86_1 20 = [] from rfl]
    go_simp
    first | exact ⟨rfl, _, rfl, by first | rfl | trivial⟩ | exact ⟨trivial, rfl, _, rfl, by first | rfl | trivial⟩ | exact ⟨rfl, (bcells fun _ => 0).toList, by rw [Array.toArray_toList], by simp⟩ | exact ⟨trivial, rfl, (bcells fun _ => 0).toList, by rw [Array.toArray_toList], by simp⟩
  · intro L v w hL hD hC hI
    refine ⟨fun _ => ?_, fun hw => by cases hw⟩
    refine hI.alloc_step hok hL ⟨some 21, 0, 73, some 24, fun cs => cs.length = 4, fun cs => isE (Value.agg (List.toArray cs)) ((Z1) * (Z1))⟩ (by simp) rfl (by simp) (by intro s hs; cases hs; exact not_yet hC hL (by decide)) ?_
    rw [show readsOf plan_86_1 21 = [] from rfl]
    go_simp
    first | exact ⟨rfl, _, rfl, by first | rfl | trivial⟩ | exact ⟨trivial, rfl, _, rfl, by first | rfl | trivial⟩ | exact ⟨rfl, (bcells fun _ => 0).toList, by rw [Array.toArray_toList], by simp⟩ | exact ⟨trivial, rfl, (bcells fun _ => 0).toList, by rw [Array.toArray_toList], by simp⟩
  · intro L v w hL hD hC hI
    refine ⟨fun _ => ?_, fun hw => by cases hw⟩
    have h6 : isE (v 6) ((X1) * (X1)) := hI.val 6 (hD 6 (by decide))
    refine hI.store_step hok hL ⟨some 19, 0, 73, some 22, fun cs => cs.length = 4, fun cs => isE (Value.agg (List.toArray cs)) ((X1) * (X1))⟩ (by simp) rfl (by simp) (by intro k hk; cases hk; exact hD 19 (by decide)) ?_
    intro n cs hb hR hold
    change v 19 = .pointer (some ⟨n, 0, none⟩) at hb
    rw [show readsOf plan_86_1 22 = [(17, 6), (3, 19)] from rfl]
    exact st_E hR hold _ _ rfl hb h6 fun w' cs' hr he hk => ⟨trivial, hk, cs', hr, he⟩
  · intro L v w hL hD hC hI
    refine ⟨fun _ => ?_, fun hw => by cases hw⟩
    have h13 : isE (v 13) ((Y1) * (Y1)) := hI.val 13 (hD 13 (by decide))
    refine hI.store_step hok hL ⟨some 20, 0, 73, some 23, fun cs => cs.length = 4, fun cs => isE (Value.agg (List.toArray cs)) ((Y1) * (Y1))⟩ (by simp) rfl (by simp) (by intro k hk; cases hk; exact hD 20 (by decide)) ?_
    intro n cs hb hR hold
    change v 20 = .pointer (some ⟨n, 0, none⟩) at hb
    rw [show readsOf plan_86_1 23 = [(24, 13), (4, 20)] from rfl]
    exact st_E hR hold _ _ rfl hb h13 fun w' cs' hr he hk => ⟨trivial, hk, cs', hr, he⟩
  · intro L v w hL hD hC hI
    refine ⟨fun _ => ?_, fun hw => by cases hw⟩
    have h18 : isE (v 18) ((Z1) * (Z1)) := hI.val 18 (hD 18 (by decide))
    refine hI.store_step hok hL ⟨some 21, 0, 73, some 24, fun cs => cs.length = 4, fun cs => isE (Value.agg (List.toArray cs)) ((Z1) * (Z1))⟩ (by simp) rfl (by simp) (by intro k hk; cases hk; exact hD 21 (by decide)) ?_
    intro n cs hb hR hold
    change v 21 = .pointer (some ⟨n, 0, none⟩) at hb
    rw [show readsOf plan_86_1 24 = [(29, 18), (5, 21)] from rfl]
    exact st_E hR hold _ _ rfl hb h18 fun w' cs' hr he hk => ⟨trivial, hk, cs', hr, he⟩
  intro L v2 W2 hL hI
  obtain ⟨n3, cs, hb_n3, lo_n3, hr, hn, ho⟩ := hI.row_made ⟨some 19, 0, 73, some 22, fun cs => cs.length = 4, fun cs => isE (Value.agg (List.toArray cs)) ((X1) * (X1))⟩ (by simp) 19 rfl (hL 19 (by decide))
  have R_n3 : RV W2 n3 73 (fun u => isE u ((X1) * (X1))) := ⟨cs, hr, hn 22 rfl (hL 22 (by decide))⟩
  clear hr hn ho
  obtain ⟨n4, cs, hb_n4, lo_n4, hr, hn, ho⟩ := hI.row_made ⟨some 20, 0, 73, some 23, fun cs => cs.length = 4, fun cs => isE (Value.agg (List.toArray cs)) ((Y1) * (Y1))⟩ (by simp) 20 rfl (hL 20 (by decide))
  have R_n4 : RV W2 n4 73 (fun u => isE u ((Y1) * (Y1))) := ⟨cs, hr, hn 23 rfl (hL 23 (by decide))⟩
  clear hr hn ho
  obtain ⟨n5, cs, hb_n5, lo_n5, hr, hn, ho⟩ := hI.row_made ⟨some 21, 0, 73, some 24, fun cs => cs.length = 4, fun cs => isE (Value.agg (List.toArray cs)) ((Z1) * (Z1))⟩ (by simp) 21 rfl (hL 21 (by decide))
  have R_n5 : RV W2 n5 73 (fun u => isE u ((Z1) * (Z1))) := ⟨cs, hr, hn 24 rfl (hL 24 (by decide))⟩
  clear hr hn ho
  replace R_bu := R_bu.keep hI.keep (by simp)
  replace R_r := R_r.keep hI.keep (by simp)
  have ne_n3_n4 : n3 ≠ n4 := fun e => hI.apart ⟨some 19, 0, 73, some 22, fun cs => cs.length = 4, fun cs => isE (Value.agg (List.toArray cs)) ((X1) * (X1))⟩ (by simp) ⟨some 20, 0, 73, some 23, fun cs => cs.length = 4, fun cs => isE (Value.agg (List.toArray cs)) ((Y1) * (Y1))⟩ (by simp) 19 20 rfl rfl (by decide) (hL 19 (by decide)) (hL 20 (by decide)) (by rw [hb_n3, hb_n4, e])
  have ne_n3_n5 : n3 ≠ n5 := fun e => hI.apart ⟨some 19, 0, 73, some 22, fun cs => cs.length = 4, fun cs => isE (Value.agg (List.toArray cs)) ((X1) * (X1))⟩ (by simp) ⟨some 21, 0, 73, some 24, fun cs => cs.length = 4, fun cs => isE (Value.agg (List.toArray cs)) ((Z1) * (Z1))⟩ (by simp) 19 21 rfl rfl (by decide) (hL 19 (by decide)) (hL 21 (by decide)) (by rw [hb_n3, hb_n5, e])
  have ne_n4_n5 : n4 ≠ n5 := fun e => hI.apart ⟨some 20, 0, 73, some 23, fun cs => cs.length = 4, fun cs => isE (Value.agg (List.toArray cs)) ((Y1) * (Y1))⟩ (by simp) ⟨some 21, 0, 73, some 24, fun cs => cs.length = 4, fun cs => isE (Value.agg (List.toArray cs)) ((Z1) * (Z1))⟩ (by simp) 20 21 rfl rfl (by decide) (hL 20 (by decide)) (hL 21 (by decide)) (by rw [hb_n4, hb_n5, e])
  have ne_bu_n3 : bu ≠ n3 := Nat.ne_of_lt (Nat.lt_of_lt_of_le lt_bu lo_n3)
  have ne_r_n3 : r ≠ n3 := Nat.ne_of_lt (Nat.lt_of_lt_of_le lt_r lo_n3)
  have ne_bu_n4 : bu ≠ n4 := Nat.ne_of_lt (Nat.lt_of_lt_of_le lt_bu lo_n4)
  have ne_r_n4 : r ≠ n4 := Nat.ne_of_lt (Nat.lt_of_lt_of_le lt_r lo_n4)
  have ne_bu_n5 : bu ≠ n5 := Nat.ne_of_lt (Nat.lt_of_lt_of_le lt_bu lo_n5)
  have ne_r_n5 : r ≠ n5 := Nat.ne_of_lt (Nat.lt_of_lt_of_le lt_r lo_n5)
  replace lt_bu := Nat.lt_of_lt_of_le lt_bu hI.keep.size
  replace lt_r := Nat.lt_of_lt_of_le lt_r hI.keep.size
  have hx' : Ext w W2 := hx.trans hI.keep.to_ext
  have lt_n3 : n3 < W2.heap.size := R_n3.lt
  have bs_n3 : w.heap.size ≤ n3 := Nat.le_trans hx.size lo_n3
  have lt_n4 : n4 < W2.heap.size := R_n4.lt
  have bs_n4 : w.heap.size ≤ n4 := Nat.le_trans hx.size lo_n4
  have lt_n5 : n5 < W2.heap.size := R_n5.lt
  have bs_n5 : w.heap.size ≤ n5 := Nat.le_trans hx.size lo_n5
  clear hx hI hL hok L
  have hx := hx'
  clear hx'
  obtain ⟨a, q_a⟩ : ∃ x, x = (X1) * (X1) := ⟨_, rfl⟩
  rw [← q_a] at R_n3
  replace q_a := Lib.hid q_a
  obtain ⟨b, q_b⟩ : ∃ x, x = (Y1) * (Y1) := ⟨_, rfl⟩
  rw [← q_b] at R_n4
  replace q_b := Lib.hid q_b
  obtain ⟨c, q_c⟩ : ∃ x, x = (Z1) * (Z1) := ⟨_, rfl⟩
  rw [← q_c] at R_n5
  replace q_c := Lib.hid q_c
  simp only [putP, Act.put, List.setIfInBounds_toArray, List.set_cons_zero, List.set_cons_succ, hb_n3, hb_n4, hb_n5]
  go_upto_region 2 with fail
  have hok : TrsOk [] W2.heap.size ([⟨some 7, 0, 73, some 8, fun cs => cs.length = 4, fun cs => isE (Value.agg (List.toArray cs)) ((X1) + (Y1))⟩] : List Trk) := ⟨by simp, by simp, by simp, by simp⟩
  refine wp_region_text (Inv [] (fun j u => match j with | 0 => u = .pointer (some ⟨bu, 0, none⟩) | 1 => u = .pointer (some ⟨bu, 0, none⟩) | 2 => isE u (X1) | 3 => u = .pointer (some ⟨bu, 0, none⟩) | 4 => u = .pointer (some ⟨bu, 4, none⟩) | 5 => isE u (Y1) | 6 => isE u ((X1) + (Y1)) | _ => True) [⟨some 7, 0, 73, some 8, fun cs => cs.length = 4, fun cs => isE (Value.agg (List.toArray cs)) ((X1) + (Y1))⟩] W2) plan_86_2 [(30, 0), (31, 1), (32, 2), (33, 3), (34, 4), (35, 5), (36, 6), (6, 7)] 71 rfl (by kernel_rfl) (Inv.start0 hok (by simp)) ⟨?_, ?_, ?_, ?_, ?_, ?_, ?_, ?_, ?_, trivial⟩ ?_
  · intro L v w hL hD hC hI
    refine ⟨fun _ => ?_, fun hw => by cases hw⟩
    refine hI.val_step hL (by simp) ?_
    rw [show readsOf plan_86_2 0 = [] from rfl]
    go_simp
    exact ⟨rfl, Ext.refl _⟩
  · intro L v w hL hD hC hI
    refine ⟨fun _ => ?_, fun hw => by cases hw⟩
    have h0 : (v 0) = .pointer (some ⟨bu, 0, none⟩) := hI.val 0 (hD 0 (by decide))
    refine hI.val_step hL (by simp) ?_
    rw [show readsOf plan_86_2 1 = [(30, 0)] from rfl]
    simp only [putP, Act.put, List.setIfInBounds_toArray, List.set_cons_zero, List.set_cons_succ, h0]
    go_simp
    exact ⟨rfl, Ext.refl _⟩
  · intro L v w hL hD hC hI
    refine ⟨fun _ => ?_, fun hw => by cases hw⟩
    have h1 : (v 1) = .pointer (some ⟨bu, 0, none⟩) := hI.val 1 (hD 1 (by decide))
    refine hI.val_step hL (by simp) ?_
    rw [show readsOf plan_86_2 2 = [(31, 1)] from rfl]
    exact ld_Wx (R_bu.keep hI.keep (by simp)) _ rfl h1 fun u hu => ⟨hu, Ext.refl _⟩
  · intro L v w hL hD hC hI
    refine ⟨fun _ => ?_, fun hw => by cases hw⟩
    refine hI.val_step hL (by simp) ?_
    rw [show readsOf plan_86_2 3 = [] from rfl]
    go_simp
    exact ⟨rfl, Ext.refl _⟩
  · intro L v w hL hD hC hI
    refine ⟨fun _ => ?_, fun hw => by cases hw⟩
    have h3 : (v 3) = .pointer (some ⟨bu, 0, none⟩) := hI.val 3 (hD 3 (by decide))
    refine hI.val_step hL (by simp) ?_
    rw [show readsOf plan_86_2 4 = [(33, 3)] from rfl]
    simp only [putP, Act.put, List.setIfInBounds_toArray, List.set_cons_zero, List.set_cons_succ, h3]
    go_simp
    exact ⟨rfl, Ext.refl _⟩
  · intro L v w hL hD hC hI
    refine ⟨fun _ => ?_, fun hw => by cases hw⟩
    have h4 : (v 4) = .pointer (some ⟨bu, 4, none⟩) := hI.val 4 (hD 4 (by decide))
    refine hI.val_step hL (by simp) ?_
    rw [show readsOf plan_86_2 5 = [(34, 4)] from rfl]
    exact ld_Wy (R_bu.keep hI.keep (by simp)) _ rfl h4 fun u hu => ⟨hu, Ext.refl _⟩
  · intro L v w hL hD hC hI
    refine ⟨fun _ => ?_, fun hw => by cases hw⟩
    have h2 : isE (v 2) (X1) := hI.val 2 (hD 2 (by decide))
    have h5 : isE (v 5) (Y1) := hI.val 5 (hD 5 (by decide))
    refine hI.val_step hL (by simp) ?_
    rw [show readsOf plan_86_2 6 = [(32, 2), (35, 5)] from rfl]
    refine give_call _ _ _ _ rfl rfl Try.func67 (by kernel_rfl) (by kernel_rfl) ?_
    refine Calls.mono (eadd h2 h5 w) ?_
    rintro e w' ⟨r, rfl, hr, hx⟩
    exact ⟨r, rfl, hr, hx⟩
  · intro L v w hL hD hC hI
    refine ⟨fun _ => ?_, fun hw => by cases hw⟩
    refine hI.alloc_step hok hL ⟨some 7, 0, 73, some 8, fun cs => cs.length = 4, fun cs => isE (Value.agg (List.toArray cs)) ((X1) + (Y1))⟩ (by simp) rfl (by simp) (by intro s hs; cases hs; exact not_yet hC hL (by decide)) ?_
    rw [show readsOf plan_86_2 7 = [] from rfl]
    go_simp
    first | exact ⟨rfl, _, rfl, by first | rfl | trivial⟩ | exact ⟨trivial, rfl, _, rfl, by first | rfl | trivial⟩ | exact ⟨rfl, (bcells fun _ => 0).toList, by rw [Array.toArray_toList], by simp⟩ | exact ⟨trivial, rfl, (bcells fun _ => 0).toList, by rw [Array.toArray_toList], by simp⟩
  · intro L v w hL hD hC hI
    refine ⟨fun _ => ?_, fun hw => by cases hw⟩
    have h6 : isE (v 6) ((X1) + (Y1)) := hI.val 6 (hD 6 (by decide))
    refine hI.store_step hok hL ⟨some 7, 0, 73, some 8, fun cs => cs.length = 4, fun cs => isE (Value.agg (List.toArray cs)) ((X1) + (Y1))⟩ (by simp) rfl (by simp) (by intro k hk; cases hk; exact hD 7 (by decide)) ?_
    intro n cs hb hR hold
    change v 7 = .pointer (some ⟨n, 0, none⟩) at hb
    rw [show readsOf plan_86_2 8 = [(36, 6), (6, 7)] from rfl]
    exact st_E hR hold _ _ rfl hb h6 fun w' cs' hr he hk => ⟨trivial, hk, cs', hr, he⟩
  intro L v3 W3 hL hI
  obtain ⟨n6, cs, hb_n6, lo_n6, hr, hn, ho⟩ := hI.row_made ⟨some 7, 0, 73, some 8, fun cs => cs.length = 4, fun cs => isE (Value.agg (List.toArray cs)) ((X1) + (Y1))⟩ (by simp) 7 rfl (hL 7 (by decide))
  have R_n6 : RV W3 n6 73 (fun u => isE u ((X1) + (Y1))) := ⟨cs, hr, hn 8 rfl (hL 8 (by decide))⟩
  clear hr hn ho
  replace R_bu := R_bu.keep hI.keep (by simp)
  replace R_r := R_r.keep hI.keep (by simp)
  replace R_n3 := R_n3.keep hI.keep (by simp)
  replace R_n4 := R_n4.keep hI.keep (by simp)
  replace R_n5 := R_n5.keep hI.keep (by simp)
  have ne_bu_n6 : bu ≠ n6 := Nat.ne_of_lt (Nat.lt_of_lt_of_le lt_bu lo_n6)
  have ne_r_n6 : r ≠ n6 := Nat.ne_of_lt (Nat.lt_of_lt_of_le lt_r lo_n6)
  have ne_n3_n6 : n3 ≠ n6 := Nat.ne_of_lt (Nat.lt_of_lt_of_le lt_n3 lo_n6)
  have ne_n4_n6 : n4 ≠ n6 := Nat.ne_of_lt (Nat.lt_of_lt_of_le lt_n4 lo_n6)
  have ne_n5_n6 : n5 ≠ n6 := Nat.ne_of_lt (Nat.lt_of_lt_of_le lt_n5 lo_n6)
  replace lt_bu := Nat.lt_of_lt_of_le lt_bu hI.keep.size
  replace lt_r := Nat.lt_of_lt_of_le lt_r hI.keep.size
  replace lt_n3 := Nat.lt_of_lt_of_le lt_n3 hI.keep.size
  replace lt_n4 := Nat.lt_of_lt_of_le lt_n4 hI.keep.size
  replace lt_n5 := Nat.lt_of_lt_of_le lt_n5 hI.keep.size
  have hx' : Ext w W3 := hx.trans hI.keep.to_ext
  have lt_n6 : n6 < W3.heap.size := R_n6.lt
  have bs_n6 : w.heap.size ≤ n6 := Nat.le_trans hx.size lo_n6
  clear hx hI hL hok L
  have hx := hx'
  clear hx'
  obtain ⟨s, q_s⟩ : ∃ x, x = (X1) + (Y1) := ⟨_, rfl⟩
  rw [← q_s] at R_n6
  replace q_s := Lib.hid q_s
  simp only [putP, Act.put, List.setIfInBounds_toArray, List.set_cons_zero, List.set_cons_succ, hb_n6]
  go_upto_region 3 with fail
  have hok : TrsOk [] W3.heap.size ([⟨some 7, 0, 73, some 8, fun cs => cs.length = 4, fun cs => isE (Value.agg (List.toArray cs)) ((((s) * (s)) - (a)) - (b))⟩] : List Trk) := ⟨by simp, by simp, by simp, by simp⟩
  refine wp_region_plan (Inv [] (fun j u => match j with | 0 => isE u (s) | 1 => isE u (s) | 2 => isE u ((s) * (s)) | 3 => isE u (a) | 4 => isE u (((s) * (s)) - (a)) | 5 => isE u (b) | 6 => isE u ((((s) * (s)) - (a)) - (b)) | _ => True) [⟨some 7, 0, 73, some 8, fun cs => cs.length = 4, fun cs => isE (Value.agg (List.toArray cs)) ((((s) * (s)) - (a)) - (b))⟩] W3) plan_86_3 [(37, 0), (38, 1), (39, 2), (40, 3), (41, 4), (42, 5), (43, 6), (7, 7)] 71 (by kernel_rfl) rfl (by kernel_rfl) (Inv.start hok (by simp)) ⟨?_, ?_, ?_, ?_, ?_, ?_, ?_, ?_, ?_, trivial⟩ ?_
  · intro L v w hL hD hC hI
    refine ⟨fun _ => ?_, fun hw => by cases hw⟩
    refine hI.val_step hL (by simp) ?_
    rw [show readsOf plan_86_3 0 = [] from rfl]
    exact ld_E (R_n6.keep hI.keep (by simp)) _ rfl rfl fun u hu => ⟨hu, Ext.refl _⟩
  · intro L v w hL hD hC hI
    refine ⟨fun _ => ?_, fun hw => by cases hw⟩
    refine hI.val_step hL (by simp) ?_
    rw [show readsOf plan_86_3 1 = [] from rfl]
    exact ld_E (R_n6.keep hI.keep (by simp)) _ rfl rfl fun u hu => ⟨hu, Ext.refl _⟩
  · intro L v w hL hD hC hI
    refine ⟨fun _ => ?_, fun hw => by cases hw⟩
    have h0 : isE (v 0) (s) := hI.val 0 (hD 0 (by decide))
    have h1 : isE (v 1) (s) := hI.val 1 (hD 1 (by decide))
    refine hI.val_step hL (by simp) ?_
    rw [show readsOf plan_86_3 2 = [(37, 0), (38, 1)] from rfl]
    refine give_call _ _ _ _ rfl rfl Try.func70 (by kernel_rfl) (by kernel_rfl) ?_
    refine Calls.mono (emul h0 h1 w) ?_
    rintro e w' ⟨r, rfl, hr, hx⟩
    exact ⟨r, rfl, hr, hx⟩
  · intro L v w hL hD hC hI
    refine ⟨fun _ => ?_, fun hw => by cases hw⟩
    refine hI.val_step hL (by simp) ?_
    rw [show readsOf plan_86_3 3 = [] from rfl]
    exact ld_E (R_n3.keep hI.keep (by simp)) _ rfl rfl fun u hu => ⟨hu, Ext.refl _⟩
  · intro L v w hL hD hC hI
    refine ⟨fun _ => ?_, fun hw => by cases hw⟩
    have h2 : isE (v 2) ((s) * (s)) := hI.val 2 (hD 2 (by decide))
    have h3 : isE (v 3) (a) := hI.val 3 (hD 3 (by decide))
    refine hI.val_step hL (by simp) ?_
    rw [show readsOf plan_86_3 4 = [(39, 2), (40, 3)] from rfl]
    refine give_call _ _ _ _ rfl rfl Try.func69 (by kernel_rfl) (by kernel_rfl) ?_
    refine Calls.mono (esub h2 h3 w) ?_
    rintro e w' ⟨r, rfl, hr, hx⟩
    exact ⟨r, rfl, hr, hx⟩
  · intro L v w hL hD hC hI
    refine ⟨fun _ => ?_, fun hw => by cases hw⟩
    refine hI.val_step hL (by simp) ?_
    rw [show readsOf plan_86_3 5 = [] from rfl]
    exact ld_E (R_n4.keep hI.keep (by simp)) _ rfl rfl fun u hu => ⟨hu, Ext.refl _⟩
  · intro L v w hL hD hC hI
    refine ⟨fun _ => ?_, fun hw => by cases hw⟩
    have h4 : isE (v 4) (((s) * (s)) - (a)) := hI.val 4 (hD 4 (by decide))
    have h5 : isE (v 5) (b) := hI.val 5 (hD 5 (by decide))
    refine hI.val_step hL (by simp) ?_
    rw [show readsOf plan_86_3 6 = [(41, 4), (42, 5)] from rfl]
    refine give_call _ _ _ _ rfl rfl Try.func69 (by kernel_rfl) (by kernel_rfl) ?_
    refine Calls.mono (esub h4 h5 w) ?_
    rintro e w' ⟨r, rfl, hr, hx⟩
    exact ⟨r, rfl, hr, hx⟩
  · intro L v w hL hD hC hI
    refine ⟨fun _ => ?_, fun hw => by cases hw⟩
    refine hI.alloc_step hok hL ⟨some 7, 0, 73, some 8, fun cs => cs.length = 4, fun cs => isE (Value.agg (List.toArray cs)) ((((s) * (s)) - (a)) - (b))⟩ (by simp) rfl (by simp) (by intro s hs; cases hs; exact not_yet hC hL (by decide)) ?_
    rw [show readsOf plan_86_3 7 = [] from rfl]
    go_simp
    first | exact ⟨rfl, _, rfl, by first | rfl | trivial⟩ | exact ⟨trivial, rfl, _, rfl, by first | rfl | trivial⟩ | exact ⟨rfl, (bcells fun _ => 0).toList, by rw [Array.toArray_toList], by simp⟩ | exact ⟨trivial, rfl, (bcells fun _ => 0).toList, by rw [Array.toArray_toList], by simp⟩
  · intro L v w hL hD hC hI
    refine ⟨fun _ => ?_, fun hw => by cases hw⟩
    have h6 : isE (v 6) ((((s) * (s)) - (a)) - (b)) := hI.val 6 (hD 6 (by decide))
    refine hI.store_step hok hL ⟨some 7, 0, 73, some 8, fun cs => cs.length = 4, fun cs => isE (Value.agg (List.toArray cs)) ((((s) * (s)) - (a)) - (b))⟩ (by simp) rfl (by simp) (by intro k hk; cases hk; exact hD 7 (by decide)) ?_
    intro n cs hb hR hold
    change v 7 = .pointer (some ⟨n, 0, none⟩) at hb
    rw [show readsOf plan_86_3 8 = [(43, 6), (7, 7)] from rfl]
    exact st_E hR hold _ _ rfl hb h6 fun w' cs' hr he hk => ⟨trivial, hk, cs', hr, he⟩
  intro L v4 W4 hL hI
  obtain ⟨n7, cs, hb_n7, lo_n7, hr, hn, ho⟩ := hI.row_made ⟨some 7, 0, 73, some 8, fun cs => cs.length = 4, fun cs => isE (Value.agg (List.toArray cs)) ((((s) * (s)) - (a)) - (b))⟩ (by simp) 7 rfl (hL 7 (by decide))
  have R_n7 : RV W4 n7 73 (fun u => isE u ((((s) * (s)) - (a)) - (b))) := ⟨cs, hr, hn 8 rfl (hL 8 (by decide))⟩
  clear hr hn ho
  replace R_bu := R_bu.keep hI.keep (by simp)
  replace R_r := R_r.keep hI.keep (by simp)
  replace R_n3 := R_n3.keep hI.keep (by simp)
  replace R_n4 := R_n4.keep hI.keep (by simp)
  replace R_n5 := R_n5.keep hI.keep (by simp)
  replace R_n6 := R_n6.keep hI.keep (by simp)
  have ne_bu_n7 : bu ≠ n7 := Nat.ne_of_lt (Nat.lt_of_lt_of_le lt_bu lo_n7)
  have ne_r_n7 : r ≠ n7 := Nat.ne_of_lt (Nat.lt_of_lt_of_le lt_r lo_n7)
  have ne_n3_n7 : n3 ≠ n7 := Nat.ne_of_lt (Nat.lt_of_lt_of_le lt_n3 lo_n7)
  have ne_n4_n7 : n4 ≠ n7 := Nat.ne_of_lt (Nat.lt_of_lt_of_le lt_n4 lo_n7)
  have ne_n5_n7 : n5 ≠ n7 := Nat.ne_of_lt (Nat.lt_of_lt_of_le lt_n5 lo_n7)
  have ne_n6_n7 : n6 ≠ n7 := Nat.ne_of_lt (Nat.lt_of_lt_of_le lt_n6 lo_n7)
  replace lt_bu := Nat.lt_of_lt_of_le lt_bu hI.keep.size
  replace lt_r := Nat.lt_of_lt_of_le lt_r hI.keep.size
  replace lt_n3 := Nat.lt_of_lt_of_le lt_n3 hI.keep.size
  replace lt_n4 := Nat.lt_of_lt_of_le lt_n4 hI.keep.size
  replace lt_n5 := Nat.lt_of_lt_of_le lt_n5 hI.keep.size
  replace lt_n6 := Nat.lt_of_lt_of_le lt_n6 hI.keep.size
  have hx' : Ext w W4 := hx.trans hI.keep.to_ext
  have lt_n7 : n7 < W4.heap.size := R_n7.lt
  have bs_n7 : w.heap.size ≤ n7 := Nat.le_trans hx.size lo_n7
  clear hx hI hL hok L
  have hx := hx'
  clear hx'
  obtain ⟨e, q_e⟩ : ∃ x, x = (((s) * (s)) - (a)) - (b) := ⟨_, rfl⟩
  rw [← q_e] at R_n7
  replace q_e := Lib.hid q_e
  simp only [putP, Act.put, List.setIfInBounds_toArray, List.set_cons_zero, List.set_cons_succ, hb_n7]
  go_upto_region 4 with fail
  have hok : TrsOk [] W4.heap.size ([⟨some 3, 0, 73, some 4, fun cs => cs.length = 4, fun cs => isE (Value.agg (List.toArray cs)) ((b) - (a))⟩] : List Trk) := ⟨by simp, by simp, by simp, by simp⟩
  refine wp_region_text (Inv [] (fun j u => match j with | 0 => isE u (b) | 1 => isE u (a) | 2 => isE u ((b) - (a)) | _ => True) [⟨some 3, 0, 73, some 4, fun cs => cs.length = 4, fun cs => isE (Value.agg (List.toArray cs)) ((b) - (a))⟩] W4) plan_86_4 [(44, 0), (45, 1), (46, 2), (8, 3)] 71 rfl (by kernel_rfl) (Inv.start0 hok (by simp)) ⟨?_, ?_, ?_, ?_, ?_, trivial⟩ ?_
  · intro L v w hL hD hC hI
    refine ⟨fun _ => ?_, fun hw => by cases hw⟩
    refine hI.val_step hL (by simp) ?_
    rw [show readsOf plan_86_4 0 = [] from rfl]
    exact ld_E (R_n4.keep hI.keep (by simp)) _ rfl rfl fun u hu => ⟨hu, Ext.refl _⟩
  · intro L v w hL hD hC hI
    refine ⟨fun _ => ?_, fun hw => by cases hw⟩
    refine hI.val_step hL (by simp) ?_
    rw [show readsOf plan_86_4 1 = [] from rfl]
    exact ld_E (R_n3.keep hI.keep (by simp)) _ rfl rfl fun u hu => ⟨hu, Ext.refl _⟩
  · intro L v w hL hD hC hI
    refine ⟨fun _ => ?_, fun hw => by cases hw⟩
    have h0 : isE (v 0) (b) := hI.val 0 (hD 0 (by decide))
    have h1 : isE (v 1) (a) := hI.val 1 (hD 1 (by decide))
    refine hI.val_step hL (by simp) ?_
    rw [show readsOf plan_86_4 2 = [(44, 0), (45, 1)] from rfl]
    refine give_call _ _ _ _ rfl rfl Try.func69 (by kernel_rfl) (by kernel_rfl) ?_
    refine Calls.mono (esub h0 h1 w) ?_
    rintro e w' ⟨r, rfl, hr, hx⟩
    exact ⟨r, rfl, hr, hx⟩
  · intro L v w hL hD hC hI
    refine ⟨fun _ => ?_, fun hw => by cases hw⟩
    refine hI.alloc_step hok hL ⟨some 3, 0, 73, some 4, fun cs => cs.length = 4, fun cs => isE (Value.agg (List.toArray cs)) ((b) - (a))⟩ (by simp) rfl (by simp) (by intro s hs; cases hs; exact not_yet hC hL (by decide)) ?_
    rw [show readsOf plan_86_4 3 = [] from rfl]
    go_simp
    first | exact ⟨rfl, _, rfl, by first | rfl | trivial⟩ | exact ⟨trivial, rfl, _, rfl, by first | rfl | trivial⟩ | exact ⟨rfl, (bcells fun _ => 0).toList, by rw [Array.toArray_toList], by simp⟩ | exact ⟨trivial, rfl, (bcells fun _ => 0).toList, by rw [Array.toArray_toList], by simp⟩
  · intro L v w hL hD hC hI
    refine ⟨fun _ => ?_, fun hw => by cases hw⟩
    have h2 : isE (v 2) ((b) - (a)) := hI.val 2 (hD 2 (by decide))
    refine hI.store_step hok hL ⟨some 3, 0, 73, some 4, fun cs => cs.length = 4, fun cs => isE (Value.agg (List.toArray cs)) ((b) - (a))⟩ (by simp) rfl (by simp) (by intro k hk; cases hk; exact hD 3 (by decide)) ?_
    intro n cs hb hR hold
    change v 3 = .pointer (some ⟨n, 0, none⟩) at hb
    rw [show readsOf plan_86_4 4 = [(46, 2), (8, 3)] from rfl]
    exact st_E hR hold _ _ rfl hb h2 fun w' cs' hr he hk => ⟨trivial, hk, cs', hr, he⟩
  intro L v5 W5 hL hI
  obtain ⟨n8, cs, hb_n8, lo_n8, hr, hn, ho⟩ := hI.row_made ⟨some 3, 0, 73, some 4, fun cs => cs.length = 4, fun cs => isE (Value.agg (List.toArray cs)) ((b) - (a))⟩ (by simp) 3 rfl (hL 3 (by decide))
  have R_n8 : RV W5 n8 73 (fun u => isE u ((b) - (a))) := ⟨cs, hr, hn 4 rfl (hL 4 (by decide))⟩
  clear hr hn ho
  replace R_bu := R_bu.keep hI.keep (by simp)
  replace R_r := R_r.keep hI.keep (by simp)
  replace R_n3 := R_n3.keep hI.keep (by simp)
  replace R_n4 := R_n4.keep hI.keep (by simp)
  replace R_n5 := R_n5.keep hI.keep (by simp)
  replace R_n6 := R_n6.keep hI.keep (by simp)
  replace R_n7 := R_n7.keep hI.keep (by simp)
  have ne_bu_n8 : bu ≠ n8 := Nat.ne_of_lt (Nat.lt_of_lt_of_le lt_bu lo_n8)
  have ne_r_n8 : r ≠ n8 := Nat.ne_of_lt (Nat.lt_of_lt_of_le lt_r lo_n8)
  have ne_n3_n8 : n3 ≠ n8 := Nat.ne_of_lt (Nat.lt_of_lt_of_le lt_n3 lo_n8)
  have ne_n4_n8 : n4 ≠ n8 := Nat.ne_of_lt (Nat.lt_of_lt_of_le lt_n4 lo_n8)
  have ne_n5_n8 : n5 ≠ n8 := Nat.ne_of_lt (Nat.lt_of_lt_of_le lt_n5 lo_n8)
  have ne_n6_n8 : n6 ≠ n8 := Nat.ne_of_lt (Nat.lt_of_lt_of_le lt_n6 lo_n8)
  have ne_n7_n8 : n7 ≠ n8 := Nat.ne_of_lt (Nat.lt_of_lt_of_le lt_n7 lo_n8)
  replace lt_bu := Nat.lt_of_lt_of_le lt_bu hI.keep.size
  replace lt_r := Nat.lt_of_lt_of_le lt_r hI.keep.size
  replace lt_n3 := Nat.lt_of_lt_of_le lt_n3 hI.keep.size
  replace lt_n4 := Nat.lt_of_lt_of_le lt_n4 hI.keep.size
  replace lt_n5 := Nat.lt_of_lt_of_le lt_n5 hI.keep.size
  replace lt_n6 := Nat.lt_of_lt_of_le lt_n6 hI.keep.size
  replace lt_n7 := Nat.lt_of_lt_of_le lt_n7 hI.keep.size
  have hx' : Ext w W5 := hx.trans hI.keep.to_ext
  have lt_n8 : n8 < W5.heap.size := R_n8.lt
  have bs_n8 : w.heap.size ≤ n8 := Nat.le_trans hx.size lo_n8
  clear hx hI hL hok L
  have hx := hx'
  clear hx'
  obtain ⟨g, q_g⟩ : ∃ x, x = (b) - (a) := ⟨_, rfl⟩
  rw [← q_g] at R_n8
  replace q_g := Lib.hid q_g
  simp only [putP, Act.put, List.setIfInBounds_toArray, List.set_cons_zero, List.set_cons_succ, hb_n8]
  go_upto_region 5 with fail
  have hok : TrsOk [] W5.heap.size ([⟨some 5, 0, 73, some 6, fun cs => cs.length = 4, fun cs => isE (Value.agg (List.toArray cs)) ((g) - ((c) + (c)))⟩] : List Trk) := ⟨by simp, by simp, by simp, by simp⟩
  refine wp_region_plan (Inv [] (fun j u => match j with | 0 => isE u (g) | 1 => isE u (c) | 2 => isE u (c) | 3 => isE u ((c) + (c)) | 4 => isE u ((g) - ((c) + (c))) | _ => True) [⟨some 5, 0, 73, some 6, fun cs => cs.length = 4, fun cs => isE (Value.agg (List.toArray cs)) ((g) - ((c) + (c)))⟩] W5) plan_86_5 [(47, 0), (48, 1), (49, 2), (50, 3), (51, 4), (9, 5)] 71 (by kernel_rfl) rfl (by kernel_rfl) (Inv.start hok (by simp)) ⟨?_, ?_, ?_, ?_, ?_, ?_, ?_, trivial⟩ ?_
  · intro L v w hL hD hC hI
    refine ⟨fun _ => ?_, fun hw => by cases hw⟩
    refine hI.val_step hL (by simp) ?_
    rw [show readsOf plan_86_5 0 = [] from rfl]
    exact ld_E (R_n8.keep hI.keep (by simp)) _ rfl rfl fun u hu => ⟨hu, Ext.refl _⟩
  · intro L v w hL hD hC hI
    refine ⟨fun _ => ?_, fun hw => by cases hw⟩
    refine hI.val_step hL (by simp) ?_
    rw [show readsOf plan_86_5 1 = [] from rfl]
    exact ld_E (R_n5.keep hI.keep (by simp)) _ rfl rfl fun u hu => ⟨hu, Ext.refl _⟩
  · intro L v w hL hD hC hI
    refine ⟨fun _ => ?_, fun hw => by cases hw⟩
    refine hI.val_step hL (by simp) ?_
    rw [show readsOf plan_86_5 2 = [] from rfl]
    exact ld_E (R_n5.keep hI.keep (by simp)) _ rfl rfl fun u hu => ⟨hu, Ext.refl _⟩
  · intro L v w hL hD hC hI
    refine ⟨fun _ => ?_, fun hw => by cases hw⟩
    have h1 : isE (v 1) (c) := hI.val 1 (hD 1 (by decide))
    have h2 : isE (v 2) (c) := hI.val 2 (hD 2 (by decide))
    refine hI.val_step hL (by simp) ?_
    rw [show readsOf plan_86_5 3 = [(48, 1), (49, 2)] from rfl]
    refine give_call _ _ _ _ rfl rfl Try.func67 (by kernel_rfl) (by kernel_rfl) ?_
    refine Calls.mono (eadd h1 h2 w) ?_
    rintro e w' ⟨r, rfl, hr, hx⟩
    exact ⟨r, rfl, hr, hx⟩
  · intro L v w hL hD hC hI
    refine ⟨fun _ => ?_, fun hw => by cases hw⟩
    have h0 : isE (v 0) (g) := hI.val 0 (hD 0 (by decide))
    have h3 : isE (v 3) ((c) + (c)) := hI.val 3 (hD 3 (by decide))
    refine hI.val_step hL (by simp) ?_
    rw [show readsOf plan_86_5 4 = [(47, 0), (50, 3)] from rfl]
    refine give_call _ _ _ _ rfl rfl Try.func69 (by kernel_rfl) (by kernel_rfl) ?_
    refine Calls.mono (esub h0 h3 w) ?_
    rintro e w' ⟨r, rfl, hr, hx⟩
    exact ⟨r, rfl, hr, hx⟩
  · intro L v w hL hD hC hI
    refine ⟨fun _ => ?_, fun hw => by cases hw⟩
    refine hI.alloc_step hok hL ⟨some 5, 0, 73, some 6, fun cs => cs.length = 4, fun cs => isE (Value.agg (List.toArray cs)) ((g) - ((c) + (c)))⟩ (by simp) rfl (by simp) (by intro s hs; cases hs; exact not_yet hC hL (by decide)) ?_
    rw [show readsOf plan_86_5 5 = [] from rfl]
    go_simp
    first | exact ⟨rfl, _, rfl, by first | rfl | trivial⟩ | exact ⟨trivial, rfl, _, rfl, by first | rfl | trivial⟩ | exact ⟨rfl, (bcells fun _ => 0).toList, by rw [Array.toArray_toList], by simp⟩ | exact ⟨trivial, rfl, (bcells fun _ => 0).toList, by rw [Array.toArray_toList], by simp⟩
  · intro L v w hL hD hC hI
    refine ⟨fun _ => ?_, fun hw => by cases hw⟩
    have h4 : isE (v 4) ((g) - ((c) + (c))) := hI.val 4 (hD 4 (by decide))
    refine hI.store_step hok hL ⟨some 5, 0, 73, some 6, fun cs => cs.length = 4, fun cs => isE (Value.agg (List.toArray cs)) ((g) - ((c) + (c)))⟩ (by simp) rfl (by simp) (by intro k hk; cases hk; exact hD 5 (by decide)) ?_
    intro n cs hb hR hold
    change v 5 = .pointer (some ⟨n, 0, none⟩) at hb
    rw [show readsOf plan_86_5 6 = [(51, 4), (9, 5)] from rfl]
    exact st_E hR hold _ _ rfl hb h4 fun w' cs' hr he hk => ⟨trivial, hk, cs', hr, he⟩
  intro L v6 W6 hL hI
  obtain ⟨n9, cs, hb_n9, lo_n9, hr, hn, ho⟩ := hI.row_made ⟨some 5, 0, 73, some 6, fun cs => cs.length = 4, fun cs => isE (Value.agg (List.toArray cs)) ((g) - ((c) + (c)))⟩ (by simp) 5 rfl (hL 5 (by decide))
  have R_n9 : RV W6 n9 73 (fun u => isE u ((g) - ((c) + (c)))) := ⟨cs, hr, hn 6 rfl (hL 6 (by decide))⟩
  clear hr hn ho
  replace R_bu := R_bu.keep hI.keep (by simp)
  replace R_r := R_r.keep hI.keep (by simp)
  replace R_n3 := R_n3.keep hI.keep (by simp)
  replace R_n4 := R_n4.keep hI.keep (by simp)
  replace R_n5 := R_n5.keep hI.keep (by simp)
  replace R_n6 := R_n6.keep hI.keep (by simp)
  replace R_n7 := R_n7.keep hI.keep (by simp)
  replace R_n8 := R_n8.keep hI.keep (by simp)
  have ne_bu_n9 : bu ≠ n9 := Nat.ne_of_lt (Nat.lt_of_lt_of_le lt_bu lo_n9)
  have ne_r_n9 : r ≠ n9 := Nat.ne_of_lt (Nat.lt_of_lt_of_le lt_r lo_n9)
  have ne_n3_n9 : n3 ≠ n9 := Nat.ne_of_lt (Nat.lt_of_lt_of_le lt_n3 lo_n9)
  have ne_n4_n9 : n4 ≠ n9 := Nat.ne_of_lt (Nat.lt_of_lt_of_le lt_n4 lo_n9)
  have ne_n5_n9 : n5 ≠ n9 := Nat.ne_of_lt (Nat.lt_of_lt_of_le lt_n5 lo_n9)
  have ne_n6_n9 : n6 ≠ n9 := Nat.ne_of_lt (Nat.lt_of_lt_of_le lt_n6 lo_n9)
  have ne_n7_n9 : n7 ≠ n9 := Nat.ne_of_lt (Nat.lt_of_lt_of_le lt_n7 lo_n9)
  have ne_n8_n9 : n8 ≠ n9 := Nat.ne_of_lt (Nat.lt_of_lt_of_le lt_n8 lo_n9)
  replace lt_bu := Nat.lt_of_lt_of_le lt_bu hI.keep.size
  replace lt_r := Nat.lt_of_lt_of_le lt_r hI.keep.size
  replace lt_n3 := Nat.lt_of_lt_of_le lt_n3 hI.keep.size
  replace lt_n4 := Nat.lt_of_lt_of_le lt_n4 hI.keep.size
  replace lt_n5 := Nat.lt_of_lt_of_le lt_n5 hI.keep.size
  replace lt_n6 := Nat.lt_of_lt_of_le lt_n6 hI.keep.size
  replace lt_n7 := Nat.lt_of_lt_of_le lt_n7 hI.keep.size
  replace lt_n8 := Nat.lt_of_lt_of_le lt_n8 hI.keep.size
  have hx' : Ext w W6 := hx.trans hI.keep.to_ext
  have lt_n9 : n9 < W6.heap.size := R_n9.lt
  have bs_n9 : w.heap.size ≤ n9 := Nat.le_trans hx.size lo_n9
  clear hx hI hL hok L
  have hx := hx'
  clear hx'
  obtain ⟨f, q_f⟩ : ∃ x, x = (g) - ((c) + (c)) := ⟨_, rfl⟩
  rw [← q_f] at R_n9
  replace q_f := Lib.hid q_f
  simp only [putP, Act.put, List.setIfInBounds_toArray, List.set_cons_zero, List.set_cons_succ, hb_n9]
  go_upto_region 6 with fail
  have hok : TrsOk [] W6.heap.size ([⟨some 5, 0, 73, some 6, fun cs => cs.length = 4, fun cs => isE (Value.agg (List.toArray cs)) (((0) - (a)) - (b))⟩] : List Trk) := ⟨by simp, by simp, by simp, by simp⟩
  refine wp_region_plan (Inv [] (fun j u => match j with | 0 => isE u (0) | 1 => isE u (a) | 2 => isE u ((0) - (a)) | 3 => isE u (b) | 4 => isE u (((0) - (a)) - (b)) | _ => True) [⟨some 5, 0, 73, some 6, fun cs => cs.length = 4, fun cs => isE (Value.agg (List.toArray cs)) (((0) - (a)) - (b))⟩] W6) plan_86_6 [(52, 0), (53, 1), (54, 2), (55, 3), (56, 4), (10, 5)] 71 (by kernel_rfl) rfl (by kernel_rfl) (Inv.start hok (by simp)) ⟨?_, ?_, ?_, ?_, ?_, ?_, ?_, trivial⟩ ?_
  · intro L v w hL hD hC hI
    refine ⟨fun _ => ?_, fun hw => by cases hw⟩
    refine hI.val_step hL (by simp) ?_
    rw [show readsOf plan_86_6 0 = [] from rfl]
    go_simp
    exact ⟨isE_zero, Ext.refl _⟩
  · intro L v w hL hD hC hI
    refine ⟨fun _ => ?_, fun hw => by cases hw⟩
    refine hI.val_step hL (by simp) ?_
    rw [show readsOf plan_86_6 1 = [] from rfl]
    exact ld_E (R_n3.keep hI.keep (by simp)) _ rfl rfl fun u hu => ⟨hu, Ext.refl _⟩
  · intro L v w hL hD hC hI
    refine ⟨fun _ => ?_, fun hw => by cases hw⟩
    have h0 : isE (v 0) (0) := hI.val 0 (hD 0 (by decide))
    have h1 : isE (v 1) (a) := hI.val 1 (hD 1 (by decide))
    refine hI.val_step hL (by simp) ?_
    rw [show readsOf plan_86_6 2 = [(52, 0), (53, 1)] from rfl]
    refine give_call _ _ _ _ rfl rfl Try.func69 (by kernel_rfl) (by kernel_rfl) ?_
    refine Calls.mono (esub h0 h1 w) ?_
    rintro e w' ⟨r, rfl, hr, hx⟩
    exact ⟨r, rfl, hr, hx⟩
  · intro L v w hL hD hC hI
    refine ⟨fun _ => ?_, fun hw => by cases hw⟩
    refine hI.val_step hL (by simp) ?_
    rw [show readsOf plan_86_6 3 = [] from rfl]
    exact ld_E (R_n4.keep hI.keep (by simp)) _ rfl rfl fun u hu => ⟨hu, Ext.refl _⟩
  · intro L v w hL hD hC hI
    refine ⟨fun _ => ?_, fun hw => by cases hw⟩
    have h2 : isE (v 2) ((0) - (a)) := hI.val 2 (hD 2 (by decide))
    have h3 : isE (v 3) (b) := hI.val 3 (hD 3 (by decide))
    refine hI.val_step hL (by simp) ?_
    rw [show readsOf plan_86_6 4 = [(54, 2), (55, 3)] from rfl]
    refine give_call _ _ _ _ rfl rfl Try.func69 (by kernel_rfl) (by kernel_rfl) ?_
    refine Calls.mono (esub h2 h3 w) ?_
    rintro e w' ⟨r, rfl, hr, hx⟩
    exact ⟨r, rfl, hr, hx⟩
  · intro L v w hL hD hC hI
    refine ⟨fun _ => ?_, fun hw => by cases hw⟩
    refine hI.alloc_step hok hL ⟨some 5, 0, 73, some 6, fun cs => cs.length = 4, fun cs => isE (Value.agg (List.toArray cs)) (((0) - (a)) - (b))⟩ (by simp) rfl (by simp) (by intro s hs; cases hs; exact not_yet hC hL (by decide)) ?_
    rw [show readsOf plan_86_6 5 = [] from rfl]
    go_simp
    first | exact ⟨rfl, _, rfl, by first | rfl | trivial⟩ | exact ⟨trivial, rfl, _, rfl, by first | rfl | trivial⟩ | exact ⟨rfl, (bcells fun _ => 0).toList, by rw [Array.toArray_toList], by simp⟩ | exact ⟨trivial, rfl, (bcells fun _ => 0).toList, by rw [Array.toArray_toList], by simp⟩
  · intro L v w hL hD hC hI
    refine ⟨fun _ => ?_, fun hw => by cases hw⟩
    have h4 : isE (v 4) (((0) - (a)) - (b)) := hI.val 4 (hD 4 (by decide))
    refine hI.store_step hok hL ⟨some 5, 0, 73, some 6, fun cs => cs.length = 4, fun cs => isE (Value.agg (List.toArray cs)) (((0) - (a)) - (b))⟩ (by simp) rfl (by simp) (by intro k hk; cases hk; exact hD 5 (by decide)) ?_
    intro n cs hb hR hold
    change v 5 = .pointer (some ⟨n, 0, none⟩) at hb
    rw [show readsOf plan_86_6 6 = [(56, 4), (10, 5)] from rfl]
    exact st_E hR hold _ _ rfl hb h4 fun w' cs' hr he hk => ⟨trivial, hk, cs', hr, he⟩
  intro L v7 W7 hL hI
  obtain ⟨n10, cs, hb_n10, lo_n10, hr, hn, ho⟩ := hI.row_made ⟨some 5, 0, 73, some 6, fun cs => cs.length = 4, fun cs => isE (Value.agg (List.toArray cs)) (((0) - (a)) - (b))⟩ (by simp) 5 rfl (hL 5 (by decide))
  have R_n10 : RV W7 n10 73 (fun u => isE u (((0) - (a)) - (b))) := ⟨cs, hr, hn 6 rfl (hL 6 (by decide))⟩
  clear hr hn ho
  replace R_bu := R_bu.keep hI.keep (by simp)
  replace R_r := R_r.keep hI.keep (by simp)
  replace R_n3 := R_n3.keep hI.keep (by simp)
  replace R_n4 := R_n4.keep hI.keep (by simp)
  replace R_n5 := R_n5.keep hI.keep (by simp)
  replace R_n6 := R_n6.keep hI.keep (by simp)
  replace R_n7 := R_n7.keep hI.keep (by simp)
  replace R_n8 := R_n8.keep hI.keep (by simp)
  replace R_n9 := R_n9.keep hI.keep (by simp)
  have ne_bu_n10 : bu ≠ n10 := Nat.ne_of_lt (Nat.lt_of_lt_of_le lt_bu lo_n10)
  have ne_r_n10 : r ≠ n10 := Nat.ne_of_lt (Nat.lt_of_lt_of_le lt_r lo_n10)
  have ne_n3_n10 : n3 ≠ n10 := Nat.ne_of_lt (Nat.lt_of_lt_of_le lt_n3 lo_n10)
  have ne_n4_n10 : n4 ≠ n10 := Nat.ne_of_lt (Nat.lt_of_lt_of_le lt_n4 lo_n10)
  have ne_n5_n10 : n5 ≠ n10 := Nat.ne_of_lt (Nat.lt_of_lt_of_le lt_n5 lo_n10)
  have ne_n6_n10 : n6 ≠ n10 := Nat.ne_of_lt (Nat.lt_of_lt_of_le lt_n6 lo_n10)
  have ne_n7_n10 : n7 ≠ n10 := Nat.ne_of_lt (Nat.lt_of_lt_of_le lt_n7 lo_n10)
  have ne_n8_n10 : n8 ≠ n10 := Nat.ne_of_lt (Nat.lt_of_lt_of_le lt_n8 lo_n10)
  have ne_n9_n10 : n9 ≠ n10 := Nat.ne_of_lt (Nat.lt_of_lt_of_le lt_n9 lo_n10)
  replace lt_bu := Nat.lt_of_lt_of_le lt_bu hI.keep.size
  replace lt_r := Nat.lt_of_lt_of_le lt_r hI.keep.size
  replace lt_n3 := Nat.lt_of_lt_of_le lt_n3 hI.keep.size
  replace lt_n4 := Nat.lt_of_lt_of_le lt_n4 hI.keep.size
  replace lt_n5 := Nat.lt_of_lt_of_le lt_n5 hI.keep.size
  replace lt_n6 := Nat.lt_of_lt_of_le lt_n6 hI.keep.size
  replace lt_n7 := Nat.lt_of_lt_of_le lt_n7 hI.keep.size
  replace lt_n8 := Nat.lt_of_lt_of_le lt_n8 hI.keep.size
  replace lt_n9 := Nat.lt_of_lt_of_le lt_n9 hI.keep.size
  have hx' : Ext w W7 := hx.trans hI.keep.to_ext
  have lt_n10 : n10 < W7.heap.size := R_n10.lt
  have bs_n10 : w.heap.size ≤ n10 := Nat.le_trans hx.size lo_n10
  clear hx hI hL hok L
  have hx := hx'
  clear hx'
  obtain ⟨h, q_h⟩ : ∃ x, x = ((0) - (a)) - (b) := ⟨_, rfl⟩
  rw [← q_h] at R_n10
  replace q_h := Lib.hid q_h
  simp only [putP, Act.put, List.setIfInBounds_toArray, List.set_cons_zero, List.set_cons_succ, hb_n10]
  go_upto_region 7 with fail
  have hok : TrsOk [r] W7.heap.size ([⟨none, r, 91, some 14, fun cs => cs.length = 16, fun cs => isW (Value.agg (List.toArray cs)) ((e) * (f)) ((g) * (h)) ((f) * (g)) ((e) * (h))⟩] : List Trk) := ⟨by simp [R_r.lt], by simp, by simp, by simp⟩
  refine wp_region_plan (Inv [r] (fun j u => match j with | 0 => isE u (e) | 1 => isE u (f) | 2 => isE u ((e) * (f)) | 3 => isE u (g) | 4 => isE u (h) | 5 => isE u ((g) * (h)) | 6 => isFl u ((e) * (f)) ((g) * (h)) | 7 => isE u (f) | 8 => isE u (g) | 9 => isE u ((f) * (g)) | 10 => isE u (e) | 11 => isE u (h) | 12 => isE u ((e) * (h)) | 13 => isW u ((e) * (f)) ((g) * (h)) ((f) * (g)) ((e) * (h)) | _ => True) [⟨none, r, 91, some 14, fun cs => cs.length = 16, fun cs => isW (Value.agg (List.toArray cs)) ((e) * (f)) ((g) * (h)) ((f) * (g)) ((e) * (h))⟩] W7) plan_86_7 [(57, 0), (58, 1), (59, 2), (60, 3), (61, 4), (62, 5), (63, 6), (64, 7), (65, 8), (66, 9), (67, 10), (68, 11), (69, 12), (70, 13)] 71 (by kernel_rfl) rfl (by kernel_rfl) (Inv.start hok (by
      simp only [List.forall_mem_cons, List.not_mem_nil, false_implies, implies_true, and_true]
      exact fun _ => R_r)) ⟨?_, ?_, ?_, ?_, ?_, ?_, ?_, ?_, ?_, ?_, ?_, ?_, ?_, ?_, ?_, trivial⟩ ?_
  · intro L v w hL hD hC hI
    refine ⟨fun _ => ?_, fun hw => by cases hw⟩
    refine hI.val_step hL (by simp) ?_
    rw [show readsOf plan_86_7 0 = [] from rfl]
    exact ld_E (R_n7.keep hI.keep (by simp [ne_r_n7, Ne.symm ne_r_n7])) _ rfl rfl fun u hu => ⟨hu, Ext.refl _⟩
  · intro L v w hL hD hC hI
    refine ⟨fun _ => ?_, fun hw => by cases hw⟩
    refine hI.val_step hL (by simp) ?_
    rw [show readsOf plan_86_7 1 = [] from rfl]
    exact ld_E (R_n9.keep hI.keep (by simp [ne_r_n9, Ne.symm ne_r_n9])) _ rfl rfl fun u hu => ⟨hu, Ext.refl _⟩
  · intro L v w hL hD hC hI
    refine ⟨fun _ => ?_, fun hw => by cases hw⟩
    have h0 : isE (v 0) (e) := hI.val 0 (hD 0 (by decide))
    have h1 : isE (v 1) (f) := hI.val 1 (hD 1 (by decide))
    refine hI.val_step hL (by simp) ?_
    rw [show readsOf plan_86_7 2 = [(57, 0), (58, 1)] from rfl]
    refine give_call _ _ _ _ rfl rfl Try.func70 (by kernel_rfl) (by kernel_rfl) ?_
    refine Calls.mono (emul h0 h1 w) ?_
    rintro e w' ⟨r, rfl, hr, hx⟩
    exact ⟨r, rfl, hr, hx⟩
  · intro L v w hL hD hC hI
    refine ⟨fun _ => ?_, fun hw => by cases hw⟩
    refine hI.val_step hL (by simp) ?_
    rw [show readsOf plan_86_7 3 = [] from rfl]
    exact ld_E (R_n8.keep hI.keep (by simp [ne_r_n8, Ne.symm ne_r_n8])) _ rfl rfl fun u hu => ⟨hu, Ext.refl _⟩
  · intro L v w hL hD hC hI
    refine ⟨fun _ => ?_, fun hw => by cases hw⟩
    refine hI.val_step hL (by simp) ?_
    rw [show readsOf plan_86_7 4 = [] from rfl]
    exact ld_E (R_n10.keep hI.keep (by simp [ne_r_n10, Ne.symm ne_r_n10])) _ rfl rfl fun u hu => ⟨hu, Ext.refl _⟩
  · intro L v w hL hD hC hI
    refine ⟨fun _ => ?_, fun hw => by cases hw⟩
    have h3 : isE (v 3) (g) := hI.val 3 (hD 3 (by decide))
    have h4 : isE (v 4) (h) := hI.val 4 (hD 4 (by decide))
    refine hI.val_step hL (by simp) ?_
    rw [show readsOf plan_86_7 5 = [(60, 3), (61, 4)] from rfl]
    refine give_call _ _ _ _ rfl rfl Try.func70 (by kernel_rfl) (by kernel_rfl) ?_
    refine Calls.mono (emul h3 h4 w) ?_
    rintro e w' ⟨r, rfl, hr, hx⟩
    exact ⟨r, rfl, hr, hx⟩
  · intro L v w hL hD hC hI
    refine ⟨fun _ => ?_, fun hw => by cases hw⟩
    have h2 : isE (v 2) ((e) * (f)) := hI.val 2 (hD 2 (by decide))
    have h5 : isE (v 5) ((g) * (h)) := hI.val 5 (hD 5 (by decide))
    refine hI.val_step hL (by simp) ?_
    rw [show readsOf plan_86_7 6 = [(59, 2), (62, 5)] from rfl]
    obtain ⟨x0, x1, x2, x3, g2, ex0⟩ := h2
    obtain ⟨y0, y1, y2, y3, g5, ey0⟩ := h5
    simp only [putP, Act.put, List.setIfInBounds_toArray, List.set_cons_zero, List.set_cons_succ, g2, g5]
    go_simp
    exact ⟨⟨x0, x1, x2, x3, y0, y1, y2, y3, rfl, ex0, ey0⟩, Ext.refl _⟩
  · intro L v w hL hD hC hI
    refine ⟨fun _ => ?_, fun hw => by cases hw⟩
    refine hI.val_step hL (by simp) ?_
    rw [show readsOf plan_86_7 7 = [] from rfl]
    exact ld_E (R_n9.keep hI.keep (by simp [ne_r_n9, Ne.symm ne_r_n9])) _ rfl rfl fun u hu => ⟨hu, Ext.refl _⟩
  · intro L v w hL hD hC hI
    refine ⟨fun _ => ?_, fun hw => by cases hw⟩
    refine hI.val_step hL (by simp) ?_
    rw [show readsOf plan_86_7 8 = [] from rfl]
    exact ld_E (R_n8.keep hI.keep (by simp [ne_r_n8, Ne.symm ne_r_n8])) _ rfl rfl fun u hu => ⟨hu, Ext.refl _⟩
  · intro L v w hL hD hC hI
    refine ⟨fun _ => ?_, fun hw => by cases hw⟩
    have h7 : isE (v 7) (f) := hI.val 7 (hD 7 (by decide))
    have h8 : isE (v 8) (g) := hI.val 8 (hD 8 (by decide))
    refine hI.val_step hL (by simp) ?_
    rw [show readsOf plan_86_7 9 = [(64, 7), (65, 8)] from rfl]
    refine give_call _ _ _ _ rfl rfl Try.func70 (by kernel_rfl) (by kernel_rfl) ?_
    refine Calls.mono (emul h7 h8 w) ?_
    rintro e w' ⟨r, rfl, hr, hx⟩
    exact ⟨r, rfl, hr, hx⟩
  · intro L v w hL hD hC hI
    refine ⟨fun _ => ?_, fun hw => by cases hw⟩
    refine hI.val_step hL (by simp) ?_
    rw [show readsOf plan_86_7 10 = [] from rfl]
    exact ld_E (R_n7.keep hI.keep (by simp [ne_r_n7, Ne.symm ne_r_n7])) _ rfl rfl fun u hu => ⟨hu, Ext.refl _⟩
  · intro L v w hL hD hC hI
    refine ⟨fun _ => ?_, fun hw => by cases hw⟩
    refine hI.val_step hL (by simp) ?_
    rw [show readsOf plan_86_7 11 = [] from rfl]
    exact ld_E (R_n10.keep hI.keep (by simp [ne_r_n10, Ne.symm ne_r_n10])) _ rfl rfl fun u hu => ⟨hu, Ext.refl _⟩
  · intro L v w hL hD hC hI
    refine ⟨fun _ => ?_, fun hw => by cases hw⟩
    have h10 : isE (v 10) (e) := hI.val 10 (hD 10 (by decide))
    have h11 : isE (v 11) (h) := hI.val 11 (hD 11 (by decide))
    refine hI.val_step hL (by simp) ?_
    rw [show readsOf plan_86_7 12 = [(67, 10), (68, 11)] from rfl]
    refine give_call _ _ _ _ rfl rfl Try.func70 (by kernel_rfl) (by kernel_rfl) ?_
    refine Calls.mono (emul h10 h11 w) ?_
    rintro e w' ⟨r, rfl, hr, hx⟩
    exact ⟨r, rfl, hr, hx⟩
  · intro L v w hL hD hC hI
    refine ⟨fun _ => ?_, fun hw => by cases hw⟩
    have h6 : isFl (v 6) ((e) * (f)) ((g) * (h)) := hI.val 6 (hD 6 (by decide))
    have h9 : isE (v 9) ((f) * (g)) := hI.val 9 (hD 9 (by decide))
    have h12 : isE (v 12) ((e) * (h)) := hI.val 12 (hD 12 (by decide))
    refine hI.val_step hL (by simp) ?_
    rw [show readsOf plan_86_7 13 = [(63, 6), (66, 9), (69, 12)] from rfl]
    obtain ⟨x0, x1, x2, x3, x4, x5, x6, x7, g6, ex0, ex1⟩ := h6
    obtain ⟨y0, y1, y2, y3, g9, ey0⟩ := h9
    obtain ⟨z0, z1, z2, z3, g12, ez0⟩ := h12
    simp only [putP, Act.put, List.setIfInBounds_toArray, List.set_cons_zero, List.set_cons_succ, g6, g9, g12]
    go_simp
    exact ⟨⟨x0, x1, x2, x3, x4, x5, x6, x7, y0, y1, y2, y3, z0, z1, z2, z3, rfl, ex0, ex1, ey0, ez0⟩, Ext.refl _⟩
  · intro L v w hL hD hC hI
    refine ⟨fun _ => ?_, fun hw => by cases hw⟩
    have h13 : isW (v 13) ((e) * (f)) ((g) * (h)) ((f) * (g)) ((e) * (h)) := hI.val 13 (hD 13 (by decide))
    refine hI.store_step hok hL ⟨none, r, 91, some 14, fun cs => cs.length = 16, fun cs => isW (Value.agg (List.toArray cs)) ((e) * (f)) ((g) * (h)) ((f) * (g)) ((e) * (h))⟩ (by simp) rfl (by simp) (by intro k hk; cases hk) ?_
    intro n cs hb hR hold
    change n = r at hb
    subst hb
    rw [show readsOf plan_86_7 14 = [(70, 13)] from rfl]
    exact st_W hR hold _ _ rfl rfl h13 fun w' cs' hr he hk => ⟨trivial, hk, cs', hr, he⟩
  intro L v8 W8 hL hI
  have N_r : RV W8 r 91 (fun u => isW u ((e) * (f)) ((g) * (h)) ((f) * (g)) ((e) * (h))) := hI.row_new ⟨none, r, 91, some 14, fun cs => cs.length = 16, fun cs => isW (Value.agg (List.toArray cs)) ((e) * (f)) ((g) * (h)) ((f) * (g)) ((e) * (h))⟩ (by simp) rfl 14 rfl (hL 14 (by decide))
  replace R_bu := R_bu.keep hI.keep (by simp [ne_bu_r, Ne.symm ne_bu_r])
  replace R_n3 := R_n3.keep hI.keep (by simp [ne_r_n3, Ne.symm ne_r_n3])
  replace R_n4 := R_n4.keep hI.keep (by simp [ne_r_n4, Ne.symm ne_r_n4])
  replace R_n5 := R_n5.keep hI.keep (by simp [ne_r_n5, Ne.symm ne_r_n5])
  replace R_n6 := R_n6.keep hI.keep (by simp [ne_r_n6, Ne.symm ne_r_n6])
  replace R_n7 := R_n7.keep hI.keep (by simp [ne_r_n7, Ne.symm ne_r_n7])
  replace R_n8 := R_n8.keep hI.keep (by simp [ne_r_n8, Ne.symm ne_r_n8])
  replace R_n9 := R_n9.keep hI.keep (by simp [ne_r_n9, Ne.symm ne_r_n9])
  replace R_n10 := R_n10.keep hI.keep (by simp [ne_r_n10, Ne.symm ne_r_n10])
  clear R_r
  have R_r := N_r
  clear N_r
  replace lt_bu := Nat.lt_of_lt_of_le lt_bu hI.keep.size
  replace lt_r := Nat.lt_of_lt_of_le lt_r hI.keep.size
  replace lt_n3 := Nat.lt_of_lt_of_le lt_n3 hI.keep.size
  replace lt_n4 := Nat.lt_of_lt_of_le lt_n4 hI.keep.size
  replace lt_n5 := Nat.lt_of_lt_of_le lt_n5 hI.keep.size
  replace lt_n6 := Nat.lt_of_lt_of_le lt_n6 hI.keep.size
  replace lt_n7 := Nat.lt_of_lt_of_le lt_n7 hI.keep.size
  replace lt_n8 := Nat.lt_of_lt_of_le lt_n8 hI.keep.size
  replace lt_n9 := Nat.lt_of_lt_of_le lt_n9 hI.keep.size
  replace lt_n10 := Nat.lt_of_lt_of_le lt_n10 hI.keep.size
  have hx' : Ext w W8 := Ext.keep_ hx hI.keep (by simp only [List.forall_mem_cons, List.not_mem_nil, false_implies, implies_true, and_true]; exact bs_r)
  clear hx hI hL hok L
  have hx := hx'
  clear hx'
  simp only [putP, Act.put, List.setIfInBounds_toArray, List.set_cons_zero, List.set_cons_succ]
  go_wp2
  obtain ⟨cs, hr, hv⟩ := R_r
  replace hv : isW (Value.agg (List.toArray cs)) ((e) * (f)) ((g) * (h)) ((f) * (g)) ((e) * (h)) := hv
  obtain ⟨fs, hu'⟩ := uWd
  refine bodyPost_ret (results_cell_row (p := 2) (ty := 91) rfl _ _ r 91 _ (0, 0) _ rfl hr hu' rfl (by rw [List.size_toArray, isW_len hv]; exact iWd)) rfl ?_
  exact ⟨_, rfl, ⟨_, _, _, _, hv, Rep.double hP q_a.out q_b.out q_c.out q_s.out q_e.out q_g.out q_f.out q_h.out⟩, hx⟩
end Go.Proofs.Ytndohjgfjbopnaa
