/-
  The walk of the statement CurveTimes.
-/
import Derived.Test.YtndohjgfjbopnaaComT
set_option linter.unusedSimpArgs false
set_option linter.unusedVariables false
namespace Go.Proofs.Ytndohjgfjbopnaa
open Go.RowKit Go.Cv Go.Cv.Pr Go.Cv.Grp
def plan_10_0 : List Plan := [⟨[], []⟩, ⟨[], []⟩, ⟨[], []⟩, ⟨[], []⟩]
def plan_10_1 : List Plan := [⟨[], []⟩, ⟨[0], [(15, 0)]⟩]
def plan_10_2 : List Plan := [⟨[], []⟩, ⟨[0], [(17, 0)]⟩, ⟨[0, 1], [(18, 1)]⟩, ⟨[0, 1, 2], [(16, 2)]⟩, ⟨[0, 1, 2], [(16, 2)]⟩, ⟨[], []⟩, ⟨[0, 1, 2, 3, 5], [(19, 3), (8, 5)]⟩, ⟨[0, 1, 2, 3, 4, 5, 6], [(20, 4)]⟩]
def plan_10_3 : List Plan := [⟨[], []⟩, ⟨[0], [(21, 0)]⟩]
def plan_10_5 : List Plan := [⟨[], []⟩, ⟨[], []⟩, ⟨[0, 1], [(24, 0), (25, 1)]⟩, ⟨[0, 1, 2], [(26, 2)]⟩, ⟨[0, 1, 2, 3], [(23, 3)]⟩, ⟨[0, 1, 2, 3], [(23, 3)]⟩, ⟨[], []⟩, ⟨[0, 1, 2, 3, 4, 6], [(27, 4), (10, 6)]⟩, ⟨[0, 1, 2, 3, 4, 5, 6, 7], [(28, 5)]⟩]
def plan_10_6 : List Plan := [⟨[], []⟩, ⟨[0], [(29, 0)]⟩, ⟨[0, 1], [(30, 1)]⟩, ⟨[0, 1, 2], [(31, 2)]⟩, ⟨[0, 1, 2], [(31, 2)]⟩, ⟨[0, 1, 2], [(31, 2)]⟩, ⟨[0, 1, 2, 5], [(31, 2), (34, 5)]⟩, ⟨[0, 1, 2, 5, 6], [(31, 2)]⟩, ⟨[0, 1, 2, 4, 5, 6, 7], [(31, 2), (33, 4), (35, 6), (36, 7)]⟩, ⟨[0, 1, 2, 4, 5, 6, 7, 8], [(31, 2), (37, 8)]⟩, ⟨[0, 1, 2, 3, 4, 5, 6, 7, 8, 9], [(31, 2), (32, 3), (38, 9)]⟩, ⟨[0, 1, 2, 3, 4, 5, 6, 7, 8, 9, 10], [(31, 2), (39, 10)]⟩]
def plan_10_8 : List Plan := [⟨[], []⟩, ⟨[0], [(41, 0)]⟩, ⟨[0, 1], [(42, 1)]⟩]
def plan_10_9 : List Plan := [⟨[], []⟩, ⟨[], []⟩, ⟨[0, 1], [(44, 0), (45, 1)]⟩, ⟨[0, 1, 2], [(46, 2)]⟩, ⟨[0, 1, 2, 3], [(43, 3)]⟩, ⟨[0, 1, 2, 3], [(43, 3)]⟩, ⟨[], []⟩, ⟨[0, 1, 2, 3, 4, 6], [(47, 4), (13, 6)]⟩, ⟨[0, 1, 2, 3, 4, 5, 6, 7], [(48, 5)]⟩]
def plan_10_10 : List Plan := [⟨[], []⟩, ⟨[0], [(49, 0)]⟩]
def plan_10_12 : List Plan := [⟨[], []⟩, ⟨[0], [(62, 0)]⟩, ⟨[0, 1], [(63, 1)]⟩, ⟨[0, 1, 2], [(63, 1), (64, 2)]⟩, ⟨[0, 1, 2, 3], [(63, 1), (65, 3)]⟩, ⟨[0, 1, 2, 3, 4], [(66, 4)]⟩, ⟨[0, 1, 2, 3, 4, 5], [(67, 5)]⟩, ⟨[0, 1, 2, 3, 4, 5], [(67, 5)]⟩, ⟨[0, 1, 2, 3, 4, 5], [(67, 5)]⟩, ⟨[0, 1, 2, 3, 4, 5, 8], [(67, 5), (70, 8)]⟩, ⟨[0, 1, 2, 3, 4, 5, 8, 9], [(67, 5)]⟩, ⟨[0, 1, 2, 3, 4, 5, 7, 8, 9, 10], [(67, 5), (69, 7), (71, 9), (72, 10)]⟩, ⟨[0, 1, 2, 3, 4, 5, 7, 8, 9, 10, 11], [(67, 5), (73, 11)]⟩, ⟨[0, 1, 2, 3, 4, 5, 6, 7, 8, 9, 10, 11, 12], [(67, 5), (68, 6), (74, 12)]⟩, ⟨[0, 1, 2, 3, 4, 5, 6, 7, 8, 9, 10, 11, 12, 13], [(67, 5), (75, 13)]⟩, ⟨[0, 1, 2, 3, 4, 5, 6, 7, 8, 9, 10, 11, 12, 13, 14], [(76, 14)]⟩]
def plan_10_11 : List Plan := [⟨[], []⟩, ⟨[0], [(51, 0)]⟩, ⟨[0, 1], [(52, 1)]⟩, ⟨[0, 1], [(52, 1)]⟩, ⟨[0, 1, 2, 3], [(52, 1), (53, 2), (54, 3)]⟩, ⟨[0, 1, 2, 3, 4], [(52, 1), (55, 4)]⟩, ⟨[0, 1, 2, 3, 4, 5], [(56, 5)]⟩, ⟨[0, 1, 2, 3, 4, 5, 6], [(57, 6)]⟩, ⟨[0, 1, 2, 3, 4, 5, 6], [(57, 6)]⟩, ⟨[0, 1, 2, 3, 4, 5, 6, 7, 8], [(57, 6), (58, 7), (59, 8)]⟩, ⟨[0, 1, 2, 3, 4, 5, 6, 7, 8, 9], [(57, 6), (60, 9)]⟩, ⟨[0, 1, 2, 3, 4, 5, 6, 7, 8, 9, 10], [(61, 10)]⟩]
set_option maxRecDepth 20000 in
set_option maxHeartbeats 40000000 in
theorem tml_any (f1 f2 rf rg : Nat → UInt8) (w : World) :
    Calls Try.prog 10 #[.agg (bcells f1), .agg (bcells f2), .agg (pc rf rg)] w fun e w' => e = .returned (.bool true) ∧ Ext w w' := by
  obtain ⟨P, hPe⟩ : ∃ P, P = someP f1 := ⟨_, rfl⟩
  have hP := some_any f1
  rw [← hPe] at hP
  clear hPe
  go_enter Try.func10, Try.ntmps10
  have hx : Ext w w := Ext.refl w
  go_upto_region 0 with fail
  have hok : TrsOk [] w.heap.size ([⟨some 0, 0, 22, none, fun cs => (Value.agg (List.toArray cs)) = .agg (bcells (f1)), fun _ => True⟩, ⟨some 1, 0, 22, none, fun cs => (Value.agg (List.toArray cs)) = .agg (bcells (f2)), fun _ => True⟩, ⟨some 2, 0, 43, none, fun cs => (Value.agg (List.toArray cs)) = .agg (pc (rf) (rg)), fun _ => True⟩] : List Trk) := ⟨by simp, by simp, by simp, by simp⟩
  refine wp_region_text (InvN [] (fun j u => match j with | 3 => u = .bool false | _ => True) (fun _ => none) (fun _ => none) [⟨some 0, 0, 22, none, fun cs => (Value.agg (List.toArray cs)) = .agg (bcells (f1)), fun _ => True⟩, ⟨some 1, 0, 22, none, fun cs => (Value.agg (List.toArray cs)) = .agg (bcells (f2)), fun _ => True⟩, ⟨some 2, 0, 43, none, fun cs => (Value.agg (List.toArray cs)) = .agg (pc (rf) (rg)), fun _ => True⟩] w) plan_10_0 [(3, 0), (4, 1), (5, 2), (6, 3)] 77 rfl (by kernel_rfl) (InvN.of (Inv.start0 hok (by simp))) ⟨?_, ?_, ?_, ?_, trivial⟩ ?_
  · intro L v w hL hD hC hI
    refine ⟨fun _ => ?_, fun hw => by cases hw⟩
    refine InvN.alloc_step hok hI hL ⟨some 0, 0, 22, none, fun cs => (Value.agg (List.toArray cs)) = .agg (bcells (f1)), fun _ => True⟩ (by simp) rfl (by simp) (by intro s hs; cases hs) rfl rfl ?_
    rw [show readsOf plan_10_0 0 = [] from rfl]
    exact ⟨trivial, rfl, (bcells f1).toList, by first | rfl | (rw [Array.toArray_toList]; rfl), by show (Value.agg _ = Value.agg _); rw [Array.toArray_toList]⟩
  · intro L v w hL hD hC hI
    refine ⟨fun _ => ?_, fun hw => by cases hw⟩
    refine InvN.alloc_step hok hI hL ⟨some 1, 0, 22, none, fun cs => (Value.agg (List.toArray cs)) = .agg (bcells (f2)), fun _ => True⟩ (by simp) rfl (by simp) (by intro s hs; cases hs) rfl rfl ?_
    rw [show readsOf plan_10_0 1 = [] from rfl]
    exact ⟨trivial, rfl, (bcells f2).toList, by first | rfl | (rw [Array.toArray_toList]; rfl), by show (Value.agg _ = Value.agg _); rw [Array.toArray_toList]⟩
  · intro L v w hL hD hC hI
    refine ⟨fun _ => ?_, fun hw => by cases hw⟩
    refine InvN.alloc_step hok hI hL ⟨some 2, 0, 43, none, fun cs => (Value.agg (List.toArray cs)) = .agg (pc (rf) (rg)), fun _ => True⟩ (by simp) rfl (by simp) (by intro s hs; cases hs) rfl rfl ?_
    rw [show readsOf plan_10_0 2 = [] from rfl]
    exact ⟨trivial, rfl, pcL rf rg, rfl, by show (Value.agg _ = Value.agg _); rfl⟩
  · intro L v w hL hD hC hI
    refine ⟨fun _ => ?_, fun hw => by cases hw⟩
    refine hI.val0 hL (by simp) rfl rfl ?_
    rw [show readsOf plan_10_0 3 = [] from rfl]
    first | exact ⟨rfl, Ext.refl _⟩ | (go_simp; exact ⟨rfl, Ext.refl _⟩)
  intro L v1 W1 hL hI
  obtain ⟨k1, cs, hb_k1, lo_k1, hr, hn, ho⟩ := hI.inv.row_made ⟨some 0, 0, 22, none, fun cs => (Value.agg (List.toArray cs)) = .agg (bcells (f1)), fun _ => True⟩ (by simp) 0 rfl (hL 0 (by decide))
  have R_k1 : RV W1 k1 22 (fun u => u = .agg (bcells (f1))) := ⟨cs, hr, ho (by intro s hs; cases hs)⟩
  clear hr hn ho
  obtain ⟨k2, cs, hb_k2, lo_k2, hr, hn, ho⟩ := hI.inv.row_made ⟨some 1, 0, 22, none, fun cs => (Value.agg (List.toArray cs)) = .agg (bcells (f2)), fun _ => True⟩ (by simp) 1 rfl (hL 1 (by decide))
  have R_k2 : RV W1 k2 22 (fun u => u = .agg (bcells (f2))) := ⟨cs, hr, ho (by intro s hs; cases hs)⟩
  clear hr hn ho
  obtain ⟨raw, cs, hb_raw, lo_raw, hr, hn, ho⟩ := hI.inv.row_made ⟨some 2, 0, 43, none, fun cs => (Value.agg (List.toArray cs)) = .agg (pc (rf) (rg)), fun _ => True⟩ (by simp) 2 rfl (hL 2 (by decide))
  have R_raw : RV W1 raw 43 (fun u => u = .agg (pc (rf) (rg))) := ⟨cs, hr, ho (by intro s hs; cases hs)⟩
  clear hr hn ho
  have hx' : Ext w W1 := hx.trans hI.inv.keep.to_ext
  have hs_6_0 : (v1 3) = .bool false := hI.inv.val 3 (hL 3 (by decide))
  clear hx hI hL hok L
  have hx := hx'
  clear hx'
  simp only [putP, Act.put, List.setIfInBounds_toArray, List.set_cons_zero, List.set_cons_succ, hb_k1, hb_k2, hb_raw, hs_6_0]
  go_upto_region 1 with fail
  have hok : TrsOk [] W1.heap.size ([] : List Trk) := ⟨by simp, by simp, by simp, by simp⟩
  refine wp_region_text (InvN [] (fun j u => match j with | 0 => u = .bool (true) | 1 => u = .bool (true) | _ => True) (fun _ => none) (fun _ => none) [] W1) plan_10_1 [(15, 0), (7, 1)] 77 rfl (by kernel_rfl) (InvN.of (Inv.start0 hok (by simp))) ⟨?_, ?_, trivial⟩ ?_
  · intro L v w hL hD hC hI
    refine ⟨fun _ => ?_, fun hw => by cases hw⟩
    refine hI.val0 hL (by simp) rfl rfl ?_
    rw [show readsOf plan_10_1 0 = [] from rfl]
    refine give_call _ _ _ _ rfl rfl Try.func28 (by kernel_rfl) (by kernel_rfl) ?_
    refine Calls.mono (shown7_any w) ?_
    rintro e w' ⟨rfl, hx⟩
    exact ⟨_, rfl, rfl, hx⟩
  · intro L v w hL hD hC hI
    refine ⟨fun _ => ?_, fun hw => by cases hw⟩
    have h0 : (v 0) = .bool (true) := hI.inv.val 0 (hD 0 (by decide))
    refine hI.val0 hL (by simp) rfl rfl ?_
    rw [show readsOf plan_10_1 1 = [(15, 0)] from rfl]
    exact ⟨h0, Ext.refl _⟩
  intro L v2 W2 hL hI
  replace R_k1 := R_k1.keep hI.inv.keep (by simp)
  replace R_k2 := R_k2.keep hI.inv.keep (by simp)
  replace R_raw := R_raw.keep hI.inv.keep (by simp)
  have hx' : Ext w W2 := hx.trans hI.inv.keep.to_ext
  have hs_7_1 : (v2 1) = .bool (true) := hI.inv.val 1 (hL 1 (by decide))
  clear hx hI hL hok L
  have hx := hx'
  clear hx'
  simp only [putP, Act.put, List.setIfInBounds_toArray, List.set_cons_zero, List.set_cons_succ, hs_7_1]
  go_upto_region 2 with fail
  have hok : TrsOk [] W2.heap.size ([⟨some 5, 0, 43, some 6, fun cs => (Value.agg (List.toArray cs)) = .agg (pc (fun _ => 0) (fun _ => 0)), fun cs => (Value.agg (List.toArray cs)) = .agg (pc (fb (P).x) (fb (P).y))⟩] : List Trk) := ⟨by simp, by simp, by simp, by simp⟩
  refine wp_region_text (InvN [] (fun j u => match j with | 0 => u = .agg (bcells (f1)) | 1 => u = .tuple #[.agg (pc (fb (P).x) (fb (P).y)), .bool (true)] | 2 => u = .tuple #[.agg (pc (fb (P).x) (fb (P).y)), .bool (true)] | 3 => u = .agg (pc (fb (P).x) (fb (P).y)) | 4 => u = .bool (true) | 7 => u = .bool (true) | _ => True) (fun _ => none) (fun _ => none) [⟨some 5, 0, 43, some 6, fun cs => (Value.agg (List.toArray cs)) = .agg (pc (fun _ => 0) (fun _ => 0)), fun cs => (Value.agg (List.toArray cs)) = .agg (pc (fb (P).x) (fb (P).y))⟩] W2) plan_10_2 [(17, 0), (18, 1), (16, 2), (19, 3), (20, 4), (8, 5), (9, 7)] 77 rfl (by kernel_rfl) (InvN.of (Inv.start0 hok (by simp))) ⟨?_, ?_, ?_, ?_, ?_, ?_, ?_, ?_, trivial⟩ ?_
  · intro L v w hL hD hC hI
    refine ⟨fun _ => ?_, fun hw => by cases hw⟩
    refine hI.val0 hL (by simp) rfl rfl ?_
    rw [show readsOf plan_10_2 0 = [] from rfl]
    exact ld_B (R_k1.keep hI.inv.keep (by simp)) _ rfl rfl fun u hu => ⟨hu, Ext.refl _⟩
  · intro L v w hL hD hC hI
    refine ⟨fun _ => ?_, fun hw => by cases hw⟩
    have h0 : (v 0) = .agg (bcells (f1)) := hI.inv.val 0 (hD 0 (by decide))
    refine hI.val0 hL (by simp) rfl rfl ?_
    rw [show readsOf plan_10_2 1 = [(17, 0)] from rfl]
    refine give_call _ _ _ _ rfl rfl Try.func42 (by kernel_rfl) (by kernel_rfl) ?_
    refine Calls.mono (calls_eq (hP w) (args' := #[v 0]) (by rw [h0])) ?_
    rintro e w' ⟨rfl, hx⟩
    exact ⟨_, rfl, rfl, hx⟩
  · intro L v w hL hD hC hI
    refine ⟨fun _ => ?_, fun hw => by cases hw⟩
    have h1 : (v 1) = .tuple #[.agg (pc (fb (P).x) (fb (P).y)), .bool (true)] := hI.inv.val 1 (hD 1 (by decide))
    refine hI.val0 hL (by simp) rfl rfl ?_
    rw [show readsOf plan_10_2 2 = [(18, 1)] from rfl]
    exact ⟨h1, Ext.refl _⟩
  · intro L v w hL hD hC hI
    refine ⟨fun _ => ?_, fun hw => by cases hw⟩
    have h2 : (v 2) = .tuple #[.agg (pc (fb (P).x) (fb (P).y)), .bool (true)] := hI.inv.val 2 (hD 2 (by decide))
    refine hI.val0 hL (by simp) rfl rfl ?_
    rw [show readsOf plan_10_2 3 = [(16, 2)] from rfl]
    exact give_ext _ _ _ rfl h2 _ rfl ⟨rfl, Ext.refl _⟩
  · intro L v w hL hD hC hI
    refine ⟨fun _ => ?_, fun hw => by cases hw⟩
    have h2 : (v 2) = .tuple #[.agg (pc (fb (P).x) (fb (P).y)), .bool (true)] := hI.inv.val 2 (hD 2 (by decide))
    refine hI.val0 hL (by simp) rfl rfl ?_
    rw [show readsOf plan_10_2 4 = [(16, 2)] from rfl]
    exact give_ext _ _ _ rfl h2 _ rfl ⟨rfl, Ext.refl _⟩
  · intro L v w hL hD hC hI
    refine ⟨fun _ => ?_, fun hw => by cases hw⟩
    refine InvN.alloc_step hok hI hL ⟨some 5, 0, 43, some 6, fun cs => (Value.agg (List.toArray cs)) = .agg (pc (fun _ => 0) (fun _ => 0)), fun cs => (Value.agg (List.toArray cs)) = .agg (pc (fb (P).x) (fb (P).y))⟩ (by simp) rfl (by simp) (by intro s hs; cases hs; exact not_yet hC hL (by decide)) rfl rfl ?_
    rw [show readsOf plan_10_2 5 = [] from rfl]
    go_simp
    first | exact ⟨rfl, pcL (fun _ => 0) (fun _ => 0), rfl, rfl⟩ | exact ⟨trivial, rfl, pcL (fun _ => 0) (fun _ => 0), rfl, rfl⟩ | exact ⟨rfl, (bcells fun _ => 0).toList, by rw [Array.toArray_toList], by rw [Array.toArray_toList]⟩
  · intro L v w hL hD hC hI
    refine ⟨fun _ => ?_, fun hw => by cases hw⟩
    have h3 : (v 3) = .agg (pc (fb (P).x) (fb (P).y)) := hI.inv.val 3 (hD 3 (by decide))
    refine InvN.store_step hok hI hL ⟨some 5, 0, 43, some 6, fun cs => (Value.agg (List.toArray cs)) = .agg (pc (fun _ => 0) (fun _ => 0)), fun cs => (Value.agg (List.toArray cs)) = .agg (pc (fb (P).x) (fb (P).y))⟩ (by simp) rfl (by simp) (by intro k hk; cases hk; exact hD 5 (by decide)) rfl rfl (fun cs h => by rw [pcL_of h]; exact noI_pc _ _) ?_
    intro n cs hb hR hold
    change v 5 = .pointer (some ⟨n, 0, none⟩) at hb
    rw [show readsOf plan_10_2 6 = [(19, 3), (8, 5)] from rfl]
    exact st_P hR (by rw [pcL_of hold]; exact pcL_len _ _) _ _ rfl hb h3 fun w' cs' hr he hk => ⟨trivial, hk, cs', hr, he⟩
  · intro L v w hL hD hC hI
    refine ⟨fun _ => ?_, fun hw => by cases hw⟩
    have h4 : (v 4) = .bool (true) := hI.inv.val 4 (hD 4 (by decide))
    refine hI.val0 hL (by simp) rfl rfl ?_
    rw [show readsOf plan_10_2 7 = [(20, 4)] from rfl]
    exact ⟨h4, Ext.refl _⟩
  intro L v3 W3 hL hI
  obtain ⟨p, cs, hb_p, lo_p, hr, hn, ho⟩ := hI.inv.row_made ⟨some 5, 0, 43, some 6, fun cs => (Value.agg (List.toArray cs)) = .agg (pc (fun _ => 0) (fun _ => 0)), fun cs => (Value.agg (List.toArray cs)) = .agg (pc (fb (P).x) (fb (P).y))⟩ (by simp) 5 rfl (hL 5 (by decide))
  have R_p : RV W3 p 43 (fun u => u = .agg (pc (fb (P).x) (fb (P).y))) := ⟨cs, hr, hn 6 rfl (hL 6 (by decide))⟩
  clear hr hn ho
  replace R_k1 := R_k1.keep hI.inv.keep (by simp)
  replace R_k2 := R_k2.keep hI.inv.keep (by simp)
  replace R_raw := R_raw.keep hI.inv.keep (by simp)
  have hx' : Ext w W3 := hx.trans hI.inv.keep.to_ext
  have hs_9_2 : (v3 7) = .bool (true) := hI.inv.val 7 (hL 7 (by decide))
  clear hx hI hL hok L
  have hx := hx'
  clear hx'
  simp only [putP, Act.put, List.setIfInBounds_toArray, List.set_cons_zero, List.set_cons_succ, hb_p, hs_9_2]
  go_upto_region 3 with fail
  have hok : TrsOk [] W3.heap.size ([] : List Trk) := ⟨by simp, by simp, by simp, by simp⟩
  refine wp_region_text (InvN [] (fun j u => match j with | 0 => u = .bool (true) | 1 => u = .bool (false) | _ => True) (fun _ => none) (fun _ => none) [] W3) plan_10_3 [(21, 0), (22, 1)] 77 rfl (by kernel_rfl) (InvN.of (Inv.start0 hok (by simp))) ⟨?_, ?_, trivial⟩ ?_
  · intro L v w hL hD hC hI
    refine ⟨fun _ => ?_, fun hw => by cases hw⟩
    refine hI.val0 hL (by simp) rfl rfl ?_
    rw [show readsOf plan_10_3 0 = [] from rfl]
    first | exact ⟨rfl, Ext.refl _⟩ | (go_simp; exact ⟨rfl, Ext.refl _⟩)
  · intro L v w hL hD hC hI
    refine ⟨fun _ => ?_, fun hw => by cases hw⟩
    have h0 : (v 0) = .bool (true) := hI.inv.val 0 (hD 0 (by decide))
    refine hI.val0 hL (by simp) rfl rfl ?_
    rw [show readsOf plan_10_3 1 = [(21, 0)] from rfl]
    exact give_not _ _ rfl h0 ⟨rfl, Ext.refl _⟩
  intro L v4 W4 hL hI
  replace R_k1 := R_k1.keep hI.inv.keep (by simp)
  replace R_k2 := R_k2.keep hI.inv.keep (by simp)
  replace R_raw := R_raw.keep hI.inv.keep (by simp)
  replace R_p := R_p.keep hI.inv.keep (by simp)
  have hx' : Ext w W4 := hx.trans hI.inv.keep.to_ext
  have hs_21_3 : (v4 0) = .bool (true) := hI.inv.val 0 (hL 0 (by decide))
  have hs_22_3 : (v4 1) = .bool (false) := hI.inv.val 1 (hL 1 (by decide))
  clear hx hI hL hok L
  have hx := hx'
  clear hx'
  simp only [putP, Act.put, List.setIfInBounds_toArray, List.set_cons_zero, List.set_cons_succ, hs_21_3, hs_22_3]
  go_upto_region 5 with fail
  have hok : TrsOk [] W4.heap.size ([⟨some 6, 0, 43, some 7, fun cs => (Value.agg (List.toArray cs)) = .agg (pc (fun _ => 0) (fun _ => 0)), fun cs => (Value.agg (List.toArray cs)) = .agg (pc (fb (Pt.mul (V (f2)) (P)).x) (fb (Pt.mul (V (f2)) (P)).y))⟩] : List Trk) := ⟨by simp, by simp, by simp, by simp⟩
  refine wp_region_text (InvN [] (fun j u => match j with | 0 => u = .agg (bcells (f2)) | 1 => u = .agg (pc (fb (P).x) (fb (P).y)) | 2 => u = .tuple #[.agg (pc (fb (Pt.mul (V (f2)) (P)).x) (fb (Pt.mul (V (f2)) (P)).y)), .nilIface] | 3 => u = .tuple #[.agg (pc (fb (Pt.mul (V (f2)) (P)).x) (fb (Pt.mul (V (f2)) (P)).y)), .nilIface] | 4 => u = .agg (pc (fb (Pt.mul (V (f2)) (P)).x) (fb (Pt.mul (V (f2)) (P)).y)) | 5 => u = .nilIface | 8 => u = .nilIface | _ => True) (fun _ => none) (fun _ => none) [⟨some 6, 0, 43, some 7, fun cs => (Value.agg (List.toArray cs)) = .agg (pc (fun _ => 0) (fun _ => 0)), fun cs => (Value.agg (List.toArray cs)) = .agg (pc (fb (Pt.mul (V (f2)) (P)).x) (fb (Pt.mul (V (f2)) (P)).y))⟩] W4) plan_10_5 [(24, 0), (25, 1), (26, 2), (23, 3), (27, 4), (28, 5), (10, 6), (11, 8)] 77 rfl (by kernel_rfl) (InvN.of (Inv.start0 hok (by simp))) ⟨?_, ?_, ?_, ?_, ?_, ?_, ?_, ?_, ?_, trivial⟩ ?_
  · intro L v w hL hD hC hI
    refine ⟨fun _ => ?_, fun hw => by cases hw⟩
    refine hI.val0 hL (by simp) rfl rfl ?_
    rw [show readsOf plan_10_5 0 = [] from rfl]
    exact ld_B (R_k2.keep hI.inv.keep (by simp)) _ rfl rfl fun u hu => ⟨hu, Ext.refl _⟩
  · intro L v w hL hD hC hI
    refine ⟨fun _ => ?_, fun hw => by cases hw⟩
    refine hI.val0 hL (by simp) rfl rfl ?_
    rw [show readsOf plan_10_5 1 = [] from rfl]
    exact ld_P (R_p.keep hI.inv.keep (by simp)) _ rfl rfl fun u hu => ⟨hu, Ext.refl _⟩
  · intro L v w hL hD hC hI
    refine ⟨fun _ => ?_, fun hw => by cases hw⟩
    have h0 : (v 0) = .agg (bcells (f2)) := hI.inv.val 0 (hD 0 (by decide))
    have h1 : (v 1) = .agg (pc (fb (P).x) (fb (P).y)) := hI.inv.val 1 (hD 1 (by decide))
    refine hI.val0 hL (by simp) rfl rfl ?_
    rw [show readsOf plan_10_5 2 = [(24, 0), (25, 1)] from rfl]
    refine give_call _ _ _ _ rfl rfl Try.func50 (by kernel_rfl) (by kernel_rfl) ?_
    refine Calls.mono (calls_eq (times_on (k := f2) (P := P) (tf_V_fb _) (tf_V_fb _) w) (args' := #[v 0, v 1]) (by rw [h0, h1])) ?_
    rintro e w' ⟨rfl, hx⟩
    exact ⟨_, rfl, rfl, hx⟩
  · intro L v w hL hD hC hI
    refine ⟨fun _ => ?_, fun hw => by cases hw⟩
    have h2 : (v 2) = .tuple #[.agg (pc (fb (Pt.mul (V (f2)) (P)).x) (fb (Pt.mul (V (f2)) (P)).y)), .nilIface] := hI.inv.val 2 (hD 2 (by decide))
    refine hI.val0 hL (by simp) rfl rfl ?_
    rw [show readsOf plan_10_5 3 = [(26, 2)] from rfl]
    exact ⟨h2, Ext.refl _⟩
  · intro L v w hL hD hC hI
    refine ⟨fun _ => ?_, fun hw => by cases hw⟩
    have h3 : (v 3) = .tuple #[.agg (pc (fb (Pt.mul (V (f2)) (P)).x) (fb (Pt.mul (V (f2)) (P)).y)), .nilIface] := hI.inv.val 3 (hD 3 (by decide))
    refine hI.val0 hL (by simp) rfl rfl ?_
    rw [show readsOf plan_10_5 4 = [(23, 3)] from rfl]
    exact give_ext _ _ _ rfl h3 _ rfl ⟨rfl, Ext.refl _⟩
  · intro L v w hL hD hC hI
    refine ⟨fun _ => ?_, fun hw => by cases hw⟩
    have h3 : (v 3) = .tuple #[.agg (pc (fb (Pt.mul (V (f2)) (P)).x) (fb (Pt.mul (V (f2)) (P)).y)), .nilIface] := hI.inv.val 3 (hD 3 (by decide))
    refine hI.val0 hL (by simp) rfl rfl ?_
    rw [show readsOf plan_10_5 5 = [(23, 3)] from rfl]
    exact give_ext _ _ _ rfl h3 _ rfl ⟨rfl, Ext.refl _⟩
  · intro L v w hL hD hC hI
    refine ⟨fun _ => ?_, fun hw => by cases hw⟩
    refine InvN.alloc_step hok hI hL ⟨some 6, 0, 43, some 7, fun cs => (Value.agg (List.toArray cs)) = .agg (pc (fun _ => 0) (fun _ => 0)), fun cs => (Value.agg (List.toArray cs)) = .agg (pc (fb (Pt.mul (V (f2)) (P)).x) (fb (Pt.mul (V (f2)) (P)).y))⟩ (by simp) rfl (by simp) (by intro s hs; cases hs; exact not_yet hC hL (by decide)) rfl rfl ?_
    rw [show readsOf plan_10_5 6 = [] from rfl]
    go_simp
    first | exact ⟨rfl, pcL (fun _ => 0) (fun _ => 0), rfl, rfl⟩ | exact ⟨trivial, rfl, pcL (fun _ => 0) (fun _ => 0), rfl, rfl⟩ | exact ⟨rfl, (bcells fun _ => 0).toList, by rw [Array.toArray_toList], by rw [Array.toArray_toList]⟩
  · intro L v w hL hD hC hI
    refine ⟨fun _ => ?_, fun hw => by cases hw⟩
    have h4 : (v 4) = .agg (pc (fb (Pt.mul (V (f2)) (P)).x) (fb (Pt.mul (V (f2)) (P)).y)) := hI.inv.val 4 (hD 4 (by decide))
    refine InvN.store_step hok hI hL ⟨some 6, 0, 43, some 7, fun cs => (Value.agg (List.toArray cs)) = .agg (pc (fun _ => 0) (fun _ => 0)), fun cs => (Value.agg (List.toArray cs)) = .agg (pc (fb (Pt.mul (V (f2)) (P)).x) (fb (Pt.mul (V (f2)) (P)).y))⟩ (by simp) rfl (by simp) (by intro k hk; cases hk; exact hD 6 (by decide)) rfl rfl (fun cs h => by rw [pcL_of h]; exact noI_pc _ _) ?_
    intro n cs hb hR hold
    change v 6 = .pointer (some ⟨n, 0, none⟩) at hb
    rw [show readsOf plan_10_5 7 = [(27, 4), (10, 6)] from rfl]
    exact st_P hR (by rw [pcL_of hold]; exact pcL_len _ _) _ _ rfl hb h4 fun w' cs' hr he hk => ⟨trivial, hk, cs', hr, he⟩
  · intro L v w hL hD hC hI
    refine ⟨fun _ => ?_, fun hw => by cases hw⟩
    have h5 : (v 5) = .nilIface := hI.inv.val 5 (hD 5 (by decide))
    refine hI.val0 hL (by simp) rfl rfl ?_
    rw [show readsOf plan_10_5 8 = [(28, 5)] from rfl]
    exact ⟨h5, Ext.refl _⟩
  intro L v5 W5 hL hI
  obtain ⟨t, cs, hb_t, lo_t, hr, hn, ho⟩ := hI.inv.row_made ⟨some 6, 0, 43, some 7, fun cs => (Value.agg (List.toArray cs)) = .agg (pc (fun _ => 0) (fun _ => 0)), fun cs => (Value.agg (List.toArray cs)) = .agg (pc (fb (Pt.mul (V (f2)) (P)).x) (fb (Pt.mul (V (f2)) (P)).y))⟩ (by simp) 6 rfl (hL 6 (by decide))
  have R_t : RV W5 t 43 (fun u => u = .agg (pc (fb (Pt.mul (V (f2)) (P)).x) (fb (Pt.mul (V (f2)) (P)).y))) := ⟨cs, hr, hn 7 rfl (hL 7 (by decide))⟩
  clear hr hn ho
  replace R_k1 := R_k1.keep hI.inv.keep (by simp)
  replace R_k2 := R_k2.keep hI.inv.keep (by simp)
  replace R_raw := R_raw.keep hI.inv.keep (by simp)
  replace R_p := R_p.keep hI.inv.keep (by simp)
  have hx' : Ext w W5 := hx.trans hI.inv.keep.to_ext
  have hs_11_5 : (v5 8) = .nilIface := hI.inv.val 8 (hL 8 (by decide))
  clear hx hI hL hok L
  have hx := hx'
  clear hx'
  simp only [putP, Act.put, List.setIfInBounds_toArray, List.set_cons_zero, List.set_cons_succ, hb_t, hs_11_5]
  go_upto_region 6 with fail
  have hok : TrsOk [] W5.heap.size ([] : List Trk) := ⟨by simp, by simp, by simp, by simp⟩
  refine wp_region_plan (InvN [] (fun j u => match j with | 0 => u = .nilIface | 1 => u = .bool (false) | 2 => u = .bool (false) | 3 => u = .agg (pc (fb (Pt.mul (V (f2)) (P)).x) (fb (Pt.mul (V (f2)) (P)).y)) | 4 => u = .slice (some ⟨k2, 0, none⟩) 32 32 | 5 => u = .agg (pc (fb (P).x) (fb (P).y)) | 9 => u = .agg (pc (fb (Pt.mul (V (f2)) (P)).x) (fb (Pt.mul (V (f2)) (P)).y)) | 10 => u = .bool (false) | 11 => u = .bool (false) | _ => True) (fun j => match j with | 7 => some (C7.d) | _ => none) (fun j => match j with | 6 => some (P) | 8 => some (Pt.mul (V (f2)) (P)) | _ => none) [] W5) plan_10_6 [(29, 0), (30, 1), (31, 2), (32, 3), (33, 4), (34, 5), (35, 6), (36, 7), (37, 8), (38, 9), (39, 10), (40, 11)] 77 (by kernel_rfl) rfl (by kernel_rfl) (InvN.of (Inv.start hok (by simp))) ⟨?_, ?_, ?_, ?_, ?_, ?_, ?_, ?_, ?_, ?_, ?_, ?_, trivial⟩ ?_
  · intro L v w hL hD hC hI
    refine ⟨fun _ => ?_, fun hw => by cases hw⟩
    refine hI.val0 hL (by simp) rfl rfl ?_
    rw [show readsOf plan_10_6 0 = [] from rfl]
    first | exact ⟨rfl, Ext.refl _⟩ | (go_simp; exact ⟨rfl, Ext.refl _⟩)
  · intro L v w hL hD hC hI
    refine ⟨fun _ => ?_, fun hw => by cases hw⟩
    have h0 : (v 0) = .nilIface := hI.inv.val 0 (hD 0 (by decide))
    refine hI.val0 hL (by simp) rfl rfl ?_
    rw [show readsOf plan_10_6 1 = [(29, 0)] from rfl]
    exact give_nil_ne _ _ rfl h0 rfl ⟨rfl, Ext.refl _⟩
  · intro L v w hL hD hC hI
    refine ⟨fun _ => ?_, fun hw => by cases hw⟩
    have h1 : (v 1) = .bool (false) := hI.inv.val 1 (hD 1 (by decide))
    refine hI.val0 hL (by simp) rfl rfl ?_
    rw [show readsOf plan_10_6 2 = [(30, 1)] from rfl]
    exact ⟨h1, Ext.refl _⟩
  · intro L v w hL hD hC hI
    have hg : v 2 = .bool false := hI.inv.val 2 (hD 2 (by decide))
    refine ⟨fun _ => ?_, fun hw => by simp [wantedV, hg] at hw⟩
    have h2 : (v 2) = .bool (false) := hI.inv.val 2 (hD 2 (by decide))
    refine hI.val0 hL (by simp) rfl rfl ?_
    rw [show readsOf plan_10_6 3 = [(31, 2)] from rfl]
    exact ld_P (R_t.keep hI.inv.keep (by simp)) _ rfl rfl fun u hu => ⟨hu, Ext.refl _⟩
  · intro L v w hL hD hC hI
    have hg : v 2 = .bool false := hI.inv.val 2 (hD 2 (by decide))
    refine ⟨fun _ => ?_, fun hw => by simp [wantedV, hg] at hw⟩
    have h2 : (v 2) = .bool (false) := hI.inv.val 2 (hD 2 (by decide))
    refine hI.val0 hL (by simp) rfl rfl ?_
    rw [show readsOf plan_10_6 4 = [(31, 2)] from rfl]
    go_simp
    exact ⟨rfl, Ext.refl _⟩
  · intro L v w hL hD hC hI
    have hg : v 2 = .bool false := hI.inv.val 2 (hD 2 (by decide))
    refine ⟨fun _ => ?_, fun hw => by simp [wantedV, hg] at hw⟩
    have h2 : (v 2) = .bool (false) := hI.inv.val 2 (hD 2 (by decide))
    refine hI.val0 hL (by simp) rfl rfl ?_
    rw [show readsOf plan_10_6 5 = [(31, 2)] from rfl]
    exact ld_P (R_p.keep hI.inv.keep (by simp)) _ rfl rfl fun u hu => ⟨hu, Ext.refl _⟩
  · intro L v w hL hD hC hI
    have hg : v 2 = .bool false := hI.inv.val 2 (hD 2 (by decide))
    refine ⟨fun _ => ?_, fun hw => by simp [wantedV, hg] at hw⟩
    have h2 : (v 2) = .bool (false) := hI.inv.val 2 (hD 2 (by decide))
    have h5 : (v 5) = .agg (pc (fb (P).x) (fb (P).y)) := hI.inv.val 5 (hD 5 (by decide))
    refine hI.ptv _ hL (by simp) rfl rfl (fun _ => trivial) ?_
    rw [show readsOf plan_10_6 6 = [(31, 2), (34, 5)] from rfl]
    refine give_call _ _ _ _ rfl rfl Try.func48 (by kernel_rfl) (by kernel_rfl) ?_
    refine Calls.mono (calls_eq (rin7 (P := P) (tf_V_fb _) (tf_V_fb _) w) (args' := #[v 5]) (by rw [h5])) ?_
    rintro e w' ⟨r, rfl, hr, hx⟩
    exact ⟨r, rfl, hr, hx⟩
  · intro L v w hL hD hC hI
    have hg : v 2 = .bool false := hI.inv.val 2 (hD 2 (by decide))
    refine ⟨fun _ => ?_, fun hw => by simp [wantedV, hg] at hw⟩
    have h2 : (v 2) = .bool (false) := hI.inv.val 2 (hD 2 (by decide))
    refine hI.numv _ hL (by simp) rfl rfl (fun _ => trivial) ?_
    rw [show readsOf plan_10_6 7 = [(31, 2)] from rfl]
    refine give_call _ _ _ _ rfl rfl Try.func43 (by kernel_rfl) (by kernel_rfl) ?_
    refine Calls.mono (nD w) ?_
    rintro e w' ⟨r, rfl, hr, hx⟩
    exact ⟨r, rfl, hr, hx⟩
  · intro L v w hL hD hC hI
    have hg : v 2 = .bool false := hI.inv.val 2 (hD 2 (by decide))
    refine ⟨fun _ => ?_, fun hw => by simp [wantedV, hg] at hw⟩
    have h2 : (v 2) = .bool (false) := hI.inv.val 2 (hD 2 (by decide))
    have h4 : (v 4) = .slice (some ⟨k2, 0, none⟩) 32 32 := hI.inv.val 4 (hD 4 (by decide))
    have h6 : NP w (v 6) (P) := hI.num.p 6 _ (hD 6 (by decide)) rfl
    have h7 : NF w (v 7) (C7.d) := hI.num.n 7 _ (hD 7 (by decide)) rfl
    refine hI.ptv _ hL (by simp) rfl rfl (fun _ => trivial) ?_
    rw [show readsOf plan_10_6 8 = [(31, 2), (33, 4), (35, 6), (36, 7)] from rfl]
    refine give_call _ _ _ _ rfl rfl Try.func51 (by kernel_rfl) (by kernel_rfl) ?_
    refine Calls.mono (calls_eq (rtimes (f := f2) (c := 32) (rd_of_RV (R_k2.keep hI.inv.keep (by simp))) h6 h7) (args' := #[v 4, v 6, v 7]) (by rw [h4])) ?_
    rintro e w' ⟨r, rfl, hr, hx⟩
    exact ⟨r, rfl, hr, hx⟩
  · intro L v w hL hD hC hI
    have hg : v 2 = .bool false := hI.inv.val 2 (hD 2 (by decide))
    refine ⟨fun _ => ?_, fun hw => by simp [wantedV, hg] at hw⟩
    have h2 : (v 2) = .bool (false) := hI.inv.val 2 (hD 2 (by decide))
    have h8 : NP w (v 8) (Pt.mul (V (f2)) (P)) := hI.num.p 8 _ (hD 8 (by decide)) rfl
    refine hI.val0 hL (by simp) rfl rfl ?_
    rw [show readsOf plan_10_6 9 = [(31, 2), (37, 8)] from rfl]
    refine give_call _ _ _ _ rfl rfl Try.func46 (by kernel_rfl) (by kernel_rfl) ?_
    refine Calls.mono (rout h8) ?_
    rintro e w' ⟨rfl, hx⟩
    exact ⟨_, rfl, rfl, hx⟩
  · intro L v w hL hD hC hI
    have hg : v 2 = .bool false := hI.inv.val 2 (hD 2 (by decide))
    refine ⟨fun _ => ?_, fun hw => by simp [wantedV, hg] at hw⟩
    have h2 : (v 2) = .bool (false) := hI.inv.val 2 (hD 2 (by decide))
    have h3 : (v 3) = .agg (pc (fb (Pt.mul (V (f2)) (P)).x) (fb (Pt.mul (V (f2)) (P)).y)) := hI.inv.val 3 (hD 3 (by decide))
    have h9 : (v 9) = .agg (pc (fb (Pt.mul (V (f2)) (P)).x) (fb (Pt.mul (V (f2)) (P)).y)) := hI.inv.val 9 (hD 9 (by decide))
    refine hI.val0 hL (by simp) rfl rfl ?_
    rw [show readsOf plan_10_6 10 = [(31, 2), (32, 3), (38, 9)] from rfl]
    exact give_neP _ _ _ _ _ _ _ rfl h3 h9 ⟨by simp [beqb_self], Ext.refl _⟩
  · intro L v w hL hD hC hI
    refine ⟨fun _ => ?_, fun hw => by cases hw⟩
    have h2 : (v 2) = .bool (false) := hI.inv.val 2 (hD 2 (by decide))
    have h10 : (v 10) = .bool (false) := hI.inv.val 10 (hD 10 (by decide))
    refine hI.val0 hL (by simp) rfl rfl ?_
    rw [show readsOf plan_10_6 11 = [(31, 2), (39, 10)] from rfl]
    exact give_pick_f _ _ _ rfl h2 ⟨h10, Ext.refl _⟩
  intro L v6 W6 hL hI
  replace R_k1 := R_k1.keep hI.inv.keep (by simp)
  replace R_k2 := R_k2.keep hI.inv.keep (by simp)
  replace R_raw := R_raw.keep hI.inv.keep (by simp)
  replace R_p := R_p.keep hI.inv.keep (by simp)
  replace R_t := R_t.keep hI.inv.keep (by simp)
  have hx' : Ext w W6 := hx.trans hI.inv.keep.to_ext
  have hs_29_6 : (v6 0) = .nilIface := hI.inv.val 0 (hL 0 (by decide))
  have hs_31_6 : (v6 2) = .bool (false) := hI.inv.val 2 (hL 2 (by decide))
  have hs_40_6 : (v6 11) = .bool (false) := hI.inv.val 11 (hL 11 (by decide))
  clear hx hI hL hok L
  have hx := hx'
  clear hx'
  simp only [putP, Act.put, List.setIfInBounds_toArray, List.set_cons_zero, List.set_cons_succ, hs_29_6, hs_31_6, hs_40_6]
  go_upto_region 8 with fail
  by_cases hon : C7.on (tf (V rf)) (tf (V rg))
  · obtain ⟨S, hSx, hSy⟩ : ∃ S : P7, tf (V rf) = S.x ∧ tf (V rg) = S.y := ⟨⟨_, _, hon⟩, rfl, rfl⟩
    have hok : TrsOk [] W6.heap.size ([] : List Trk) := ⟨by simp, by simp, by simp, by simp⟩
    refine wp_region_text (InvN [] (fun j u => match j with | 0 => u = .agg (pc (rf) (rg)) | 1 => u = .bool (true) | 2 => u = .bool (true) | _ => True) (fun _ => none) (fun _ => none) [] W6) plan_10_8 [(41, 0), (42, 1), (12, 2)] 77 rfl (by kernel_rfl) (InvN.of (Inv.start0 hok (by simp))) ⟨?_, ?_, ?_, trivial⟩ ?_
    · intro L v w hL hD hC hI
      refine ⟨fun _ => ?_, fun hw => by cases hw⟩
      refine hI.val0 hL (by simp) rfl rfl ?_
      rw [show readsOf plan_10_8 0 = [] from rfl]
      exact ld_P (R_raw.keep hI.inv.keep (by simp)) _ rfl rfl fun u hu => ⟨hu, Ext.refl _⟩
    · intro L v w hL hD hC hI
      refine ⟨fun _ => ?_, fun hw => by cases hw⟩
      have h0 : (v 0) = .agg (pc (rf) (rg)) := hI.inv.val 0 (hD 0 (by decide))
      refine hI.val0 hL (by simp) rfl rfl ?_
      rw [show readsOf plan_10_8 1 = [(41, 0)] from rfl]
      refine give_call _ _ _ _ rfl rfl Try.func31 (by kernel_rfl) (by kernel_rfl) ?_
      refine Calls.mono (calls_eq (ris_t hon w) (args' := #[v 0]) (by rw [h0])) ?_
      rintro e w' ⟨rfl, hx⟩
      exact ⟨_, rfl, rfl, hx⟩
    · intro L v w hL hD hC hI
      refine ⟨fun _ => ?_, fun hw => by cases hw⟩
      have h1 : (v 1) = .bool (true) := hI.inv.val 1 (hD 1 (by decide))
      refine hI.val0 hL (by simp) rfl rfl ?_
      rw [show readsOf plan_10_8 2 = [(42, 1)] from rfl]
      exact ⟨h1, Ext.refl _⟩
    intro L v7 W7 hL hI
    replace R_k1 := R_k1.keep hI.inv.keep (by simp)
    replace R_k2 := R_k2.keep hI.inv.keep (by simp)
    replace R_raw := R_raw.keep hI.inv.keep (by simp)
    replace R_p := R_p.keep hI.inv.keep (by simp)
    replace R_t := R_t.keep hI.inv.keep (by simp)
    have hx' : Ext w W7 := hx.trans hI.inv.keep.to_ext
    have hs_12_8 : (v7 2) = .bool (true) := hI.inv.val 2 (hL 2 (by decide))
    clear hx hI hL hok L
    have hx := hx'
    clear hx'
    simp only [putP, Act.put, List.setIfInBounds_toArray, List.set_cons_zero, List.set_cons_succ, hs_12_8]
    go_upto_region 9 with fail
    have hok : TrsOk [] W7.heap.size ([⟨some 6, 0, 43, some 7, fun cs => (Value.agg (List.toArray cs)) = .agg (pc (fun _ => 0) (fun _ => 0)), fun cs => (Value.agg (List.toArray cs)) = .agg (pc (fb (Pt.mul (V (f2)) (S)).x) (fb (Pt.mul (V (f2)) (S)).y))⟩] : List Trk) := ⟨by simp, by simp, by simp, by simp⟩
    refine wp_region_text (InvN [] (fun j u => match j with | 0 => u = .agg (bcells (f2)) | 1 => u = .agg (pc (rf) (rg)) | 2 => u = .tuple #[.agg (pc (fb (Pt.mul (V (f2)) (S)).x) (fb (Pt.mul (V (f2)) (S)).y)), .nilIface] | 3 => u = .tuple #[.agg (pc (fb (Pt.mul (V (f2)) (S)).x) (fb (Pt.mul (V (f2)) (S)).y)), .nilIface] | 4 => u = .agg (pc (fb (Pt.mul (V (f2)) (S)).x) (fb (Pt.mul (V (f2)) (S)).y)) | 5 => u = .nilIface | 8 => u = .nilIface | _ => True) (fun _ => none) (fun _ => none) [⟨some 6, 0, 43, some 7, fun cs => (Value.agg (List.toArray cs)) = .agg (pc (fun _ => 0) (fun _ => 0)), fun cs => (Value.agg (List.toArray cs)) = .agg (pc (fb (Pt.mul (V (f2)) (S)).x) (fb (Pt.mul (V (f2)) (S)).y))⟩] W7) plan_10_9 [(44, 0), (45, 1), (46, 2), (43, 3), (47, 4), (48, 5), (13, 6), (14, 8)] 77 rfl (by kernel_rfl) (InvN.of (Inv.start0 hok (by simp))) ⟨?_, ?_, ?_, ?_, ?_, ?_, ?_, ?_, ?_, trivial⟩ ?_
    · intro L v w hL hD hC hI
      refine ⟨fun _ => ?_, fun hw => by cases hw⟩
      refine hI.val0 hL (by simp) rfl rfl ?_
      rw [show readsOf plan_10_9 0 = [] from rfl]
      exact ld_B (R_k2.keep hI.inv.keep (by simp)) _ rfl rfl fun u hu => ⟨hu, Ext.refl _⟩
    · intro L v w hL hD hC hI
      refine ⟨fun _ => ?_, fun hw => by cases hw⟩
      refine hI.val0 hL (by simp) rfl rfl ?_
      rw [show readsOf plan_10_9 1 = [] from rfl]
      exact ld_P (R_raw.keep hI.inv.keep (by simp)) _ rfl rfl fun u hu => ⟨hu, Ext.refl _⟩
    · intro L v w hL hD hC hI
      refine ⟨fun _ => ?_, fun hw => by cases hw⟩
      have h0 : (v 0) = .agg (bcells (f2)) := hI.inv.val 0 (hD 0 (by decide))
      have h1 : (v 1) = .agg (pc (rf) (rg)) := hI.inv.val 1 (hD 1 (by decide))
      refine hI.val0 hL (by simp) rfl rfl ?_
      rw [show readsOf plan_10_9 2 = [(44, 0), (45, 1)] from rfl]
      refine give_call _ _ _ _ rfl rfl Try.func50 (by kernel_rfl) (by kernel_rfl) ?_
      refine Calls.mono (calls_eq (times_on (k := f2) (P := S) hSx hSy w) (args' := #[v 0, v 1]) (by rw [h0, h1])) ?_
      rintro e w' ⟨rfl, hx⟩
      exact ⟨_, rfl, rfl, hx⟩
    · intro L v w hL hD hC hI
      refine ⟨fun _ => ?_, fun hw => by cases hw⟩
      have h2 : (v 2) = .tuple #[.agg (pc (fb (Pt.mul (V (f2)) (S)).x) (fb (Pt.mul (V (f2)) (S)).y)), .nilIface] := hI.inv.val 2 (hD 2 (by decide))
      refine hI.val0 hL (by simp) rfl rfl ?_
      rw [show readsOf plan_10_9 3 = [(46, 2)] from rfl]
      exact ⟨h2, Ext.refl _⟩
    · intro L v w hL hD hC hI
      refine ⟨fun _ => ?_, fun hw => by cases hw⟩
      have h3 : (v 3) = .tuple #[.agg (pc (fb (Pt.mul (V (f2)) (S)).x) (fb (Pt.mul (V (f2)) (S)).y)), .nilIface] := hI.inv.val 3 (hD 3 (by decide))
      refine hI.val0 hL (by simp) rfl rfl ?_
      rw [show readsOf plan_10_9 4 = [(43, 3)] from rfl]
      exact give_ext _ _ _ rfl h3 _ rfl ⟨rfl, Ext.refl _⟩
    · intro L v w hL hD hC hI
      refine ⟨fun _ => ?_, fun hw => by cases hw⟩
      have h3 : (v 3) = .tuple #[.agg (pc (fb (Pt.mul (V (f2)) (S)).x) (fb (Pt.mul (V (f2)) (S)).y)), .nilIface] := hI.inv.val 3 (hD 3 (by decide))
      refine hI.val0 hL (by simp) rfl rfl ?_
      rw [show readsOf plan_10_9 5 = [(43, 3)] from rfl]
      exact give_ext _ _ _ rfl h3 _ rfl ⟨rfl, Ext.refl _⟩
    · intro L v w hL hD hC hI
      refine ⟨fun _ => ?_, fun hw => by cases hw⟩
      refine InvN.alloc_step hok hI hL ⟨some 6, 0, 43, some 7, fun cs => (Value.agg (List.toArray cs)) = .agg (pc (fun _ => 0) (fun _ => 0)), fun cs => (Value.agg (List.toArray cs)) = .agg (pc (fb (Pt.mul (V (f2)) (S)).x) (fb (Pt.mul (V (f2)) (S)).y))⟩ (by simp) rfl (by simp) (by intro s hs; cases hs; exact not_yet hC hL (by decide)) rfl rfl ?_
      rw [show readsOf plan_10_9 6 = [] from rfl]
      go_simp
      first | exact ⟨rfl, pcL (fun _ => 0) (fun _ => 0), rfl, rfl⟩ | exact ⟨trivial, rfl, pcL (fun _ => 0) (fun _ => 0), rfl, rfl⟩ | exact ⟨rfl, (bcells fun _ => 0).toList, by rw [Array.toArray_toList], by rw [Array.toArray_toList]⟩
    · intro L v w hL hD hC hI
      refine ⟨fun _ => ?_, fun hw => by cases hw⟩
      have h4 : (v 4) = .agg (pc (fb (Pt.mul (V (f2)) (S)).x) (fb (Pt.mul (V (f2)) (S)).y)) := hI.inv.val 4 (hD 4 (by decide))
      refine InvN.store_step hok hI hL ⟨some 6, 0, 43, some 7, fun cs => (Value.agg (List.toArray cs)) = .agg (pc (fun _ => 0) (fun _ => 0)), fun cs => (Value.agg (List.toArray cs)) = .agg (pc (fb (Pt.mul (V (f2)) (S)).x) (fb (Pt.mul (V (f2)) (S)).y))⟩ (by simp) rfl (by simp) (by intro k hk; cases hk; exact hD 6 (by decide)) rfl rfl (fun cs h => by rw [pcL_of h]; exact noI_pc _ _) ?_
      intro n cs hb hR hold
      change v 6 = .pointer (some ⟨n, 0, none⟩) at hb
      rw [show readsOf plan_10_9 7 = [(47, 4), (13, 6)] from rfl]
      exact st_P hR (by rw [pcL_of hold]; exact pcL_len _ _) _ _ rfl hb h4 fun w' cs' hr he hk => ⟨trivial, hk, cs', hr, he⟩
    · intro L v w hL hD hC hI
      refine ⟨fun _ => ?_, fun hw => by cases hw⟩
      have h5 : (v 5) = .nilIface := hI.inv.val 5 (hD 5 (by decide))
      refine hI.val0 hL (by simp) rfl rfl ?_
      rw [show readsOf plan_10_9 8 = [(48, 5)] from rfl]
      exact ⟨h5, Ext.refl _⟩
    intro L v8 W8 hL hI
    obtain ⟨u_, cs, hb_u_, lo_u_, hr, hn, ho⟩ := hI.inv.row_made ⟨some 6, 0, 43, some 7, fun cs => (Value.agg (List.toArray cs)) = .agg (pc (fun _ => 0) (fun _ => 0)), fun cs => (Value.agg (List.toArray cs)) = .agg (pc (fb (Pt.mul (V (f2)) (S)).x) (fb (Pt.mul (V (f2)) (S)).y))⟩ (by simp) 6 rfl (hL 6 (by decide))
    have R_u_ : RV W8 u_ 43 (fun u => u = .agg (pc (fb (Pt.mul (V (f2)) (S)).x) (fb (Pt.mul (V (f2)) (S)).y))) := ⟨cs, hr, hn 7 rfl (hL 7 (by decide))⟩
    clear hr hn ho
    replace R_k1 := R_k1.keep hI.inv.keep (by simp)
    replace R_k2 := R_k2.keep hI.inv.keep (by simp)
    replace R_raw := R_raw.keep hI.inv.keep (by simp)
    replace R_p := R_p.keep hI.inv.keep (by simp)
    replace R_t := R_t.keep hI.inv.keep (by simp)
    have hx' : Ext w W8 := hx.trans hI.inv.keep.to_ext
    have hs_14_9 : (v8 8) = .nilIface := hI.inv.val 8 (hL 8 (by decide))
    clear hx hI hL hok L
    have hx := hx'
    clear hx'
    simp only [putP, Act.put, List.setIfInBounds_toArray, List.set_cons_zero, List.set_cons_succ, hb_u_, hs_14_9]
    go_upto_region 10 with fail
    have hok : TrsOk [] W8.heap.size ([] : List Trk) := ⟨by simp, by simp, by simp, by simp⟩
    refine wp_region_text (InvN [] (fun j u => match j with | 0 => u = .bool (true) | 1 => u = .bool (false) | _ => True) (fun _ => none) (fun _ => none) [] W8) plan_10_10 [(49, 0), (50, 1)] 77 rfl (by kernel_rfl) (InvN.of (Inv.start0 hok (by simp))) ⟨?_, ?_, trivial⟩ ?_
    · intro L v w hL hD hC hI
      refine ⟨fun _ => ?_, fun hw => by cases hw⟩
      refine hI.val0 hL (by simp) rfl rfl ?_
      rw [show readsOf plan_10_10 0 = [] from rfl]
      first | exact ⟨rfl, Ext.refl _⟩ | (go_simp; exact ⟨rfl, Ext.refl _⟩)
    · intro L v w hL hD hC hI
      refine ⟨fun _ => ?_, fun hw => by cases hw⟩
      have h0 : (v 0) = .bool (true) := hI.inv.val 0 (hD 0 (by decide))
      refine hI.val0 hL (by simp) rfl rfl ?_
      rw [show readsOf plan_10_10 1 = [(49, 0)] from rfl]
      exact give_not _ _ rfl h0 ⟨rfl, Ext.refl _⟩
    intro L v9 W9 hL hI
    replace R_k1 := R_k1.keep hI.inv.keep (by simp)
    replace R_k2 := R_k2.keep hI.inv.keep (by simp)
    replace R_raw := R_raw.keep hI.inv.keep (by simp)
    replace R_p := R_p.keep hI.inv.keep (by simp)
    replace R_t := R_t.keep hI.inv.keep (by simp)
    replace R_u_ := R_u_.keep hI.inv.keep (by simp)
    have hx' : Ext w W9 := hx.trans hI.inv.keep.to_ext
    have hs_49_10 : (v9 0) = .bool (true) := hI.inv.val 0 (hL 0 (by decide))
    have hs_50_10 : (v9 1) = .bool (false) := hI.inv.val 1 (hL 1 (by decide))
    clear hx hI hL hok L
    have hx := hx'
    clear hx'
    simp only [putP, Act.put, List.setIfInBounds_toArray, List.set_cons_zero, List.set_cons_succ, hs_49_10, hs_50_10]
    go_upto_region 12 with fail
    have hok : TrsOk [] W9.heap.size ([] : List Trk) := ⟨by simp, by simp, by simp, by simp⟩
    refine wp_region_plan (InvN [] (fun j u => match j with | 0 => u = .bool (true) | 1 => u = .bool (true) | 2 => u = .nilIface | 3 => u = .bool (true) | 4 => u = .bool (true) | 5 => u = .bool (true) | 6 => u = .agg (pc (fb (Pt.mul (V (f2)) (S)).x) (fb (Pt.mul (V (f2)) (S)).y)) | 7 => u = .slice (some ⟨k2, 0, none⟩) 32 32 | 8 => u = .agg (pc (rf) (rg)) | 12 => u = .agg (pc (fb (Pt.mul (V (f2)) (S)).x) (fb (Pt.mul (V (f2)) (S)).y)) | 13 => u = .bool (true) | 14 => u = .bool (true) | 15 => u = .bool (true) | _ => True) (fun j => match j with | 10 => some (C7.d) | _ => none) (fun j => match j with | 9 => some (S) | 11 => some (Pt.mul (V (f2)) (S)) | _ => none) [] W9) plan_10_12 [(62, 0), (63, 1), (64, 2), (65, 3), (66, 4), (67, 5), (68, 6), (69, 7), (70, 8), (71, 9), (72, 10), (73, 11), (74, 12), (75, 13), (76, 14), (6, 15)] 77 (by kernel_rfl) rfl (by kernel_rfl) (InvN.of (Inv.start hok (by simp))) ⟨?_, ?_, ?_, ?_, ?_, ?_, ?_, ?_, ?_, ?_, ?_, ?_, ?_, ?_, ?_, ?_, trivial⟩ ?_
    · intro L v w hL hD hC hI
      refine ⟨fun _ => ?_, fun hw => by cases hw⟩
      refine hI.val0 hL (by simp) rfl rfl ?_
      rw [show readsOf plan_10_12 0 = [] from rfl]
      first | exact ⟨rfl, Ext.refl _⟩ | (go_simp; exact ⟨rfl, Ext.refl _⟩)
    · intro L v w hL hD hC hI
      refine ⟨fun _ => ?_, fun hw => by cases hw⟩
      have h0 : (v 0) = .bool (true) := hI.inv.val 0 (hD 0 (by decide))
      refine hI.val0 hL (by simp) rfl rfl ?_
      rw [show readsOf plan_10_12 1 = [(62, 0)] from rfl]
      exact ⟨h0, Ext.refl _⟩
    · intro L v w hL hD hC hI
      have hg : v 1 = .bool true := hI.inv.val 1 (hD 1 (by decide))
      refine ⟨fun _ => ?_, fun hw => by simp [wantedV, hg] at hw⟩
      have h1 : (v 1) = .bool (true) := hI.inv.val 1 (hD 1 (by decide))
      refine hI.val0 hL (by simp) rfl rfl ?_
      rw [show readsOf plan_10_12 2 = [(63, 1)] from rfl]
      first | exact ⟨rfl, Ext.refl _⟩ | (go_simp; exact ⟨rfl, Ext.refl _⟩)
    · intro L v w hL hD hC hI
      have hg : v 1 = .bool true := hI.inv.val 1 (hD 1 (by decide))
      refine ⟨fun _ => ?_, fun hw => by simp [wantedV, hg] at hw⟩
      have h1 : (v 1) = .bool (true) := hI.inv.val 1 (hD 1 (by decide))
      have h2 : (v 2) = .nilIface := hI.inv.val 2 (hD 2 (by decide))
      refine hI.val0 hL (by simp) rfl rfl ?_
      rw [show readsOf plan_10_12 3 = [(63, 1), (64, 2)] from rfl]
      exact give_nil_eq _ _ rfl h2 rfl ⟨rfl, Ext.refl _⟩
    · intro L v w hL hD hC hI
      refine ⟨fun _ => ?_, fun hw => by cases hw⟩
      have h1 : (v 1) = .bool (true) := hI.inv.val 1 (hD 1 (by decide))
      have h3 : (v 3) = .bool (true) := hI.inv.val 3 (hD 3 (by decide))
      refine hI.val0 hL (by simp) rfl rfl ?_
      rw [show readsOf plan_10_12 4 = [(63, 1), (65, 3)] from rfl]
      exact give_pick_t _ _ _ rfl h1 ⟨h3, Ext.refl _⟩
    · intro L v w hL hD hC hI
      refine ⟨fun _ => ?_, fun hw => by cases hw⟩
      have h4 : (v 4) = .bool (true) := hI.inv.val 4 (hD 4 (by decide))
      refine hI.val0 hL (by simp) rfl rfl ?_
      rw [show readsOf plan_10_12 5 = [(66, 4)] from rfl]
      exact ⟨h4, Ext.refl _⟩
    · intro L v w hL hD hC hI
      have hg : v 5 = .bool true := hI.inv.val 5 (hD 5 (by decide))
      refine ⟨fun _ => ?_, fun hw => by simp [wantedV, hg] at hw⟩
      have h5 : (v 5) = .bool (true) := hI.inv.val 5 (hD 5 (by decide))
      refine hI.val0 hL (by simp) rfl rfl ?_
      rw [show readsOf plan_10_12 6 = [(67, 5)] from rfl]
      exact ld_P (R_u_.keep hI.inv.keep (by simp)) _ rfl rfl fun u hu => ⟨hu, Ext.refl _⟩
    · intro L v w hL hD hC hI
      have hg : v 5 = .bool true := hI.inv.val 5 (hD 5 (by decide))
      refine ⟨fun _ => ?_, fun hw => by simp [wantedV, hg] at hw⟩
      have h5 : (v 5) = .bool (true) := hI.inv.val 5 (hD 5 (by decide))
      refine hI.val0 hL (by simp) rfl rfl ?_
      rw [show readsOf plan_10_12 7 = [(67, 5)] from rfl]
      go_simp
      exact ⟨rfl, Ext.refl _⟩
    · intro L v w hL hD hC hI
      have hg : v 5 = .bool true := hI.inv.val 5 (hD 5 (by decide))
      refine ⟨fun _ => ?_, fun hw => by simp [wantedV, hg] at hw⟩
      have h5 : (v 5) = .bool (true) := hI.inv.val 5 (hD 5 (by decide))
      refine hI.val0 hL (by simp) rfl rfl ?_
      rw [show readsOf plan_10_12 8 = [(67, 5)] from rfl]
      exact ld_P (R_raw.keep hI.inv.keep (by simp)) _ rfl rfl fun u hu => ⟨hu, Ext.refl _⟩
    · intro L v w hL hD hC hI
      have hg : v 5 = .bool true := hI.inv.val 5 (hD 5 (by decide))
      refine ⟨fun _ => ?_, fun hw => by simp [wantedV, hg] at hw⟩
      have h5 : (v 5) = .bool (true) := hI.inv.val 5 (hD 5 (by decide))
      have h8 : (v 8) = .agg (pc (rf) (rg)) := hI.inv.val 8 (hD 8 (by decide))
      refine hI.ptv _ hL (by simp) rfl rfl (fun _ => trivial) ?_
      rw [show readsOf plan_10_12 9 = [(67, 5), (70, 8)] from rfl]
      refine give_call _ _ _ _ rfl rfl Try.func48 (by kernel_rfl) (by kernel_rfl) ?_
      refine Calls.mono (calls_eq (rin7 (P := S) hSx hSy w) (args' := #[v 8]) (by rw [h8])) ?_
      rintro e w' ⟨r, rfl, hr, hx⟩
      exact ⟨r, rfl, hr, hx⟩
    · intro L v w hL hD hC hI
      have hg : v 5 = .bool true := hI.inv.val 5 (hD 5 (by decide))
      refine ⟨fun _ => ?_, fun hw => by simp [wantedV, hg] at hw⟩
      have h5 : (v 5) = .bool (true) := hI.inv.val 5 (hD 5 (by decide))
      refine hI.numv _ hL (by simp) rfl rfl (fun _ => trivial) ?_
      rw [show readsOf plan_10_12 10 = [(67, 5)] from rfl]
      refine give_call _ _ _ _ rfl rfl Try.func43 (by kernel_rfl) (by kernel_rfl) ?_
      refine Calls.mono (nD w) ?_
      rintro e w' ⟨r, rfl, hr, hx⟩
      exact ⟨r, rfl, hr, hx⟩
    · intro L v w hL hD hC hI
      have hg : v 5 = .bool true := hI.inv.val 5 (hD 5 (by decide))
      refine ⟨fun _ => ?_, fun hw => by simp [wantedV, hg] at hw⟩
      have h5 : (v 5) = .bool (true) := hI.inv.val 5 (hD 5 (by decide))
      have h7 : (v 7) = .slice (some ⟨k2, 0, none⟩) 32 32 := hI.inv.val 7 (hD 7 (by decide))
      have h9 : NP w (v 9) (S) := hI.num.p 9 _ (hD 9 (by decide)) rfl
      have h10 : NF w (v 10) (C7.d) := hI.num.n 10 _ (hD 10 (by decide)) rfl
      refine hI.ptv _ hL (by simp) rfl rfl (fun _ => trivial) ?_
      rw [show readsOf plan_10_12 11 = [(67, 5), (69, 7), (71, 9), (72, 10)] from rfl]
      refine give_call _ _ _ _ rfl rfl Try.func51 (by kernel_rfl) (by kernel_rfl) ?_
      refine Calls.mono (calls_eq (rtimes (f := f2) (c := 32) (rd_of_RV (R_k2.keep hI.inv.keep (by simp))) h9 h10) (args' := #[v 7, v 9, v 10]) (by rw [h7])) ?_
      rintro e w' ⟨r, rfl, hr, hx⟩
      exact ⟨r, rfl, hr, hx⟩
    · intro L v w hL hD hC hI
      have hg : v 5 = .bool true := hI.inv.val 5 (hD 5 (by decide))
      refine ⟨fun _ => ?_, fun hw => by simp [wantedV, hg] at hw⟩
      have h5 : (v 5) = .bool (true) := hI.inv.val 5 (hD 5 (by decide))
      have h11 : NP w (v 11) (Pt.mul (V (f2)) (S)) := hI.num.p 11 _ (hD 11 (by decide)) rfl
      refine hI.val0 hL (by simp) rfl rfl ?_
      rw [show readsOf plan_10_12 12 = [(67, 5), (73, 11)] from rfl]
      refine give_call _ _ _ _ rfl rfl Try.func46 (by kernel_rfl) (by kernel_rfl) ?_
      refine Calls.mono (rout h11) ?_
      rintro e w' ⟨rfl, hx⟩
      exact ⟨_, rfl, rfl, hx⟩
    · intro L v w hL hD hC hI
      have hg : v 5 = .bool true := hI.inv.val 5 (hD 5 (by decide))
      refine ⟨fun _ => ?_, fun hw => by simp [wantedV, hg] at hw⟩
      have h5 : (v 5) = .bool (true) := hI.inv.val 5 (hD 5 (by decide))
      have h6 : (v 6) = .agg (pc (fb (Pt.mul (V (f2)) (S)).x) (fb (Pt.mul (V (f2)) (S)).y)) := hI.inv.val 6 (hD 6 (by decide))
      have h12 : (v 12) = .agg (pc (fb (Pt.mul (V (f2)) (S)).x) (fb (Pt.mul (V (f2)) (S)).y)) := hI.inv.val 12 (hD 12 (by decide))
      refine hI.val0 hL (by simp) rfl rfl ?_
      rw [show readsOf plan_10_12 13 = [(67, 5), (68, 6), (74, 12)] from rfl]
      exact give_eqP _ _ _ _ _ _ _ rfl h6 h12 ⟨by simp [beqb_self], Ext.refl _⟩
    · intro L v w hL hD hC hI
      refine ⟨fun _ => ?_, fun hw => by cases hw⟩
      have h5 : (v 5) = .bool (true) := hI.inv.val 5 (hD 5 (by decide))
      have h13 : (v 13) = .bool (true) := hI.inv.val 13 (hD 13 (by decide))
      refine hI.val0 hL (by simp) rfl rfl ?_
      rw [show readsOf plan_10_12 14 = [(67, 5), (75, 13)] from rfl]
      exact give_pick_t _ _ _ rfl h5 ⟨h13, Ext.refl _⟩
    · intro L v w hL hD hC hI
      refine ⟨fun _ => ?_, fun hw => by cases hw⟩
      have h14 : (v 14) = .bool (true) := hI.inv.val 14 (hD 14 (by decide))
      refine hI.val0 hL (by simp) rfl rfl ?_
      rw [show readsOf plan_10_12 15 = [(76, 14)] from rfl]
      exact ⟨h14, Ext.refl _⟩
    intro L v10 W10 hL hI
    replace R_k1 := R_k1.keep hI.inv.keep (by simp)
    replace R_k2 := R_k2.keep hI.inv.keep (by simp)
    replace R_raw := R_raw.keep hI.inv.keep (by simp)
    replace R_p := R_p.keep hI.inv.keep (by simp)
    replace R_t := R_t.keep hI.inv.keep (by simp)
    replace R_u_ := R_u_.keep hI.inv.keep (by simp)
    have hx' : Ext w W10 := hx.trans hI.inv.keep.to_ext
    have hs_62_12 : (v10 0) = .bool (true) := hI.inv.val 0 (hL 0 (by decide))
    have hs_63_12 : (v10 1) = .bool (true) := hI.inv.val 1 (hL 1 (by decide))
    have hs_64_12 : (v10 2) = .nilIface := hI.inv.val 2 (hL 2 (by decide))
    have hs_67_12 : (v10 5) = .bool (true) := hI.inv.val 5 (hL 5 (by decide))
    have hs_6_12 : (v10 15) = .bool (true) := hI.inv.val 15 (hL 15 (by decide))
    clear hx hI hL hok L
    have hx := hx'
    clear hx'
    simp only [putP, Act.put, List.setIfInBounds_toArray, List.set_cons_zero, List.set_cons_succ, hs_62_12, hs_63_12, hs_64_12, hs_67_12, hs_6_12]
    go_wp2
    go_ret
    exact ⟨rfl, hx⟩
  · skip
    have hok : TrsOk [] W6.heap.size ([] : List Trk) := ⟨by simp, by simp, by simp, by simp⟩
    refine wp_region_text (InvN [] (fun j u => match j with | 0 => u = .agg (pc (rf) (rg)) | 1 => u = .bool (false) | 2 => u = .bool (false) | _ => True) (fun _ => none) (fun _ => none) [] W6) plan_10_8 [(41, 0), (42, 1), (12, 2)] 77 rfl (by kernel_rfl) (InvN.of (Inv.start0 hok (by simp))) ⟨?_, ?_, ?_, trivial⟩ ?_
    · intro L v w hL hD hC hI
      refine ⟨fun _ => ?_, fun hw => by cases hw⟩
      refine hI.val0 hL (by simp) rfl rfl ?_
      rw [show readsOf plan_10_8 0 = [] from rfl]
      exact ld_P (R_raw.keep hI.inv.keep (by simp)) _ rfl rfl fun u hu => ⟨hu, Ext.refl _⟩
    · intro L v w hL hD hC hI
      refine ⟨fun _ => ?_, fun hw => by cases hw⟩
      have h0 : (v 0) = .agg (pc (rf) (rg)) := hI.inv.val 0 (hD 0 (by decide))
      refine hI.val0 hL (by simp) rfl rfl ?_
      rw [show readsOf plan_10_8 1 = [(41, 0)] from rfl]
      refine give_call _ _ _ _ rfl rfl Try.func31 (by kernel_rfl) (by kernel_rfl) ?_
      refine Calls.mono (calls_eq (ris_f hon w) (args' := #[v 0]) (by rw [h0])) ?_
      rintro e w' ⟨rfl, hx⟩
      exact ⟨_, rfl, rfl, hx⟩
    · intro L v w hL hD hC hI
      refine ⟨fun _ => ?_, fun hw => by cases hw⟩
      have h1 : (v 1) = .bool (false) := hI.inv.val 1 (hD 1 (by decide))
      refine hI.val0 hL (by simp) rfl rfl ?_
      rw [show readsOf plan_10_8 2 = [(42, 1)] from rfl]
      exact ⟨h1, Ext.refl _⟩
    intro L v7 W7 hL hI
    replace R_k1 := R_k1.keep hI.inv.keep (by simp)
    replace R_k2 := R_k2.keep hI.inv.keep (by simp)
    replace R_raw := R_raw.keep hI.inv.keep (by simp)
    replace R_p := R_p.keep hI.inv.keep (by simp)
    replace R_t := R_t.keep hI.inv.keep (by simp)
    have hx' : Ext w W7 := hx.trans hI.inv.keep.to_ext
    have hs_12_8 : (v7 2) = .bool (false) := hI.inv.val 2 (hL 2 (by decide))
    clear hx hI hL hok L
    have hx := hx'
    clear hx'
    simp only [putP, Act.put, List.setIfInBounds_toArray, List.set_cons_zero, List.set_cons_succ, hs_12_8]
    go_upto_region 9 with fail
    have hok : TrsOk [] W7.heap.size ([⟨some 6, 0, 43, some 7, fun cs => (Value.agg (List.toArray cs)) = .agg (pc (fun _ => 0) (fun _ => 0)), fun cs => (Value.agg (List.toArray cs)) = .agg (pc (fun _ => 0) (fun _ => 0))⟩] : List Trk) := ⟨by simp, by simp, by simp, by simp⟩
    refine wp_region_text (InvN [] (fun j u => match j with | 0 => u = .agg (bcells (f2)) | 1 => u = .agg (pc (rf) (rg)) | 2 => u = .tuple #[.agg (pc (fun _ => 0) (fun _ => 0)), errPoint] | 3 => u = .tuple #[.agg (pc (fun _ => 0) (fun _ => 0)), errPoint] | 4 => u = .agg (pc (fun _ => 0) (fun _ => 0)) | 5 => u = errPoint | 8 => u = errPoint | _ => True) (fun _ => none) (fun _ => none) [⟨some 6, 0, 43, some 7, fun cs => (Value.agg (List.toArray cs)) = .agg (pc (fun _ => 0) (fun _ => 0)), fun cs => (Value.agg (List.toArray cs)) = .agg (pc (fun _ => 0) (fun _ => 0))⟩] W7) plan_10_9 [(44, 0), (45, 1), (46, 2), (43, 3), (47, 4), (48, 5), (13, 6), (14, 8)] 77 rfl (by kernel_rfl) (InvN.of (Inv.start0 hok (by simp))) ⟨?_, ?_, ?_, ?_, ?_, ?_, ?_, ?_, ?_, trivial⟩ ?_
    · intro L v w hL hD hC hI
      refine ⟨fun _ => ?_, fun hw => by cases hw⟩
      refine hI.val0 hL (by simp) rfl rfl ?_
      rw [show readsOf plan_10_9 0 = [] from rfl]
      exact ld_B (R_k2.keep hI.inv.keep (by simp)) _ rfl rfl fun u hu => ⟨hu, Ext.refl _⟩
    · intro L v w hL hD hC hI
      refine ⟨fun _ => ?_, fun hw => by cases hw⟩
      refine hI.val0 hL (by simp) rfl rfl ?_
      rw [show readsOf plan_10_9 1 = [] from rfl]
      exact ld_P (R_raw.keep hI.inv.keep (by simp)) _ rfl rfl fun u hu => ⟨hu, Ext.refl _⟩
    · intro L v w hL hD hC hI
      refine ⟨fun _ => ?_, fun hw => by cases hw⟩
      have h0 : (v 0) = .agg (bcells (f2)) := hI.inv.val 0 (hD 0 (by decide))
      have h1 : (v 1) = .agg (pc (rf) (rg)) := hI.inv.val 1 (hD 1 (by decide))
      refine hI.val0 hL (by simp) rfl rfl ?_
      rw [show readsOf plan_10_9 2 = [(44, 0), (45, 1)] from rfl]
      refine give_call _ _ _ _ rfl rfl Try.func50 (by kernel_rfl) (by kernel_rfl) ?_
      refine Calls.mono (calls_eq (times_off hon w) (args' := #[v 0, v 1]) (by rw [h0, h1])) ?_
      rintro e w' ⟨rfl, hx⟩
      exact ⟨_, rfl, rfl, hx⟩
    · intro L v w hL hD hC hI
      refine ⟨fun _ => ?_, fun hw => by cases hw⟩
      have h2 : (v 2) = .tuple #[.agg (pc (fun _ => 0) (fun _ => 0)), errPoint] := hI.inv.val 2 (hD 2 (by decide))
      refine hI.val0 hL (by simp) rfl rfl ?_
      rw [show readsOf plan_10_9 3 = [(46, 2)] from rfl]
      exact ⟨h2, Ext.refl _⟩
    · intro L v w hL hD hC hI
      refine ⟨fun _ => ?_, fun hw => by cases hw⟩
      have h3 : (v 3) = .tuple #[.agg (pc (fun _ => 0) (fun _ => 0)), errPoint] := hI.inv.val 3 (hD 3 (by decide))
      refine hI.val0 hL (by simp) rfl rfl ?_
      rw [show readsOf plan_10_9 4 = [(43, 3)] from rfl]
      exact give_ext _ _ _ rfl h3 _ rfl ⟨rfl, Ext.refl _⟩
    · intro L v w hL hD hC hI
      refine ⟨fun _ => ?_, fun hw => by cases hw⟩
      have h3 : (v 3) = .tuple #[.agg (pc (fun _ => 0) (fun _ => 0)), errPoint] := hI.inv.val 3 (hD 3 (by decide))
      refine hI.val0 hL (by simp) rfl rfl ?_
      rw [show readsOf plan_10_9 5 = [(43, 3)] from rfl]
      exact give_ext _ _ _ rfl h3 _ rfl ⟨rfl, Ext.refl _⟩
    · intro L v w hL hD hC hI
      refine ⟨fun _ => ?_, fun hw => by cases hw⟩
      refine InvN.alloc_step hok hI hL ⟨some 6, 0, 43, some 7, fun cs => (Value.agg (List.toArray cs)) = .agg (pc (fun _ => 0) (fun _ => 0)), fun cs => (Value.agg (List.toArray cs)) = .agg (pc (fun _ => 0) (fun _ => 0))⟩ (by simp) rfl (by simp) (by intro s hs; cases hs; exact not_yet hC hL (by decide)) rfl rfl ?_
      rw [show readsOf plan_10_9 6 = [] from rfl]
      go_simp
      first | exact ⟨rfl, pcL (fun _ => 0) (fun _ => 0), rfl, rfl⟩ | exact ⟨trivial, rfl, pcL (fun _ => 0) (fun _ => 0), rfl, rfl⟩ | exact ⟨rfl, (bcells fun _ => 0).toList, by rw [Array.toArray_toList], by rw [Array.toArray_toList]⟩
    · intro L v w hL hD hC hI
      refine ⟨fun _ => ?_, fun hw => by cases hw⟩
      have h4 : (v 4) = .agg (pc (fun _ => 0) (fun _ => 0)) := hI.inv.val 4 (hD 4 (by decide))
      refine InvN.store_step hok hI hL ⟨some 6, 0, 43, some 7, fun cs => (Value.agg (List.toArray cs)) = .agg (pc (fun _ => 0) (fun _ => 0)), fun cs => (Value.agg (List.toArray cs)) = .agg (pc (fun _ => 0) (fun _ => 0))⟩ (by simp) rfl (by simp) (by intro k hk; cases hk; exact hD 6 (by decide)) rfl rfl (fun cs h => by rw [pcL_of h]; exact noI_pc _ _) ?_
      intro n cs hb hR hold
      change v 6 = .pointer (some ⟨n, 0, none⟩) at hb
      rw [show readsOf plan_10_9 7 = [(47, 4), (13, 6)] from rfl]
      exact st_P hR (by rw [pcL_of hold]; exact pcL_len _ _) _ _ rfl hb h4 fun w' cs' hr he hk => ⟨trivial, hk, cs', hr, he⟩
    · intro L v w hL hD hC hI
      refine ⟨fun _ => ?_, fun hw => by cases hw⟩
      have h5 : (v 5) = errPoint := hI.inv.val 5 (hD 5 (by decide))
      refine hI.val0 hL (by simp) rfl rfl ?_
      rw [show readsOf plan_10_9 8 = [(48, 5)] from rfl]
      exact ⟨h5, Ext.refl _⟩
    intro L v8 W8 hL hI
    obtain ⟨u_, cs, hb_u_, lo_u_, hr, hn, ho⟩ := hI.inv.row_made ⟨some 6, 0, 43, some 7, fun cs => (Value.agg (List.toArray cs)) = .agg (pc (fun _ => 0) (fun _ => 0)), fun cs => (Value.agg (List.toArray cs)) = .agg (pc (fun _ => 0) (fun _ => 0))⟩ (by simp) 6 rfl (hL 6 (by decide))
    have R_u_ : RV W8 u_ 43 (fun u => u = .agg (pc (fun _ => 0) (fun _ => 0))) := ⟨cs, hr, hn 7 rfl (hL 7 (by decide))⟩
    clear hr hn ho
    replace R_k1 := R_k1.keep hI.inv.keep (by simp)
    replace R_k2 := R_k2.keep hI.inv.keep (by simp)
    replace R_raw := R_raw.keep hI.inv.keep (by simp)
    replace R_p := R_p.keep hI.inv.keep (by simp)
    replace R_t := R_t.keep hI.inv.keep (by simp)
    have hx' : Ext w W8 := hx.trans hI.inv.keep.to_ext
    have hs_14_9 : (v8 8) = errPoint := hI.inv.val 8 (hL 8 (by decide))
    clear hx hI hL hok L
    have hx := hx'
    clear hx'
    simp only [putP, Act.put, List.setIfInBounds_toArray, List.set_cons_zero, List.set_cons_succ, hb_u_, hs_14_9]
    go_upto_region 10 with fail
    have hok : TrsOk [] W8.heap.size ([] : List Trk) := ⟨by simp, by simp, by simp, by simp⟩
    refine wp_region_text (InvN [] (fun j u => match j with | 0 => u = .bool (false) | 1 => u = .bool (true) | _ => True) (fun _ => none) (fun _ => none) [] W8) plan_10_10 [(49, 0), (50, 1)] 77 rfl (by kernel_rfl) (InvN.of (Inv.start0 hok (by simp))) ⟨?_, ?_, trivial⟩ ?_
    · intro L v w hL hD hC hI
      refine ⟨fun _ => ?_, fun hw => by cases hw⟩
      refine hI.val0 hL (by simp) rfl rfl ?_
      rw [show readsOf plan_10_10 0 = [] from rfl]
      first | exact ⟨rfl, Ext.refl _⟩ | (go_simp; exact ⟨rfl, Ext.refl _⟩)
    · intro L v w hL hD hC hI
      refine ⟨fun _ => ?_, fun hw => by cases hw⟩
      have h0 : (v 0) = .bool (false) := hI.inv.val 0 (hD 0 (by decide))
      refine hI.val0 hL (by simp) rfl rfl ?_
      rw [show readsOf plan_10_10 1 = [(49, 0)] from rfl]
      exact give_not _ _ rfl h0 ⟨rfl, Ext.refl _⟩
    intro L v9 W9 hL hI
    replace R_k1 := R_k1.keep hI.inv.keep (by simp)
    replace R_k2 := R_k2.keep hI.inv.keep (by simp)
    replace R_raw := R_raw.keep hI.inv.keep (by simp)
    replace R_p := R_p.keep hI.inv.keep (by simp)
    replace R_t := R_t.keep hI.inv.keep (by simp)
    replace R_u_ := R_u_.keep hI.inv.keep (by simp)
    have hx' : Ext w W9 := hx.trans hI.inv.keep.to_ext
    have hs_49_10 : (v9 0) = .bool (false) := hI.inv.val 0 (hL 0 (by decide))
    have hs_50_10 : (v9 1) = .bool (true) := hI.inv.val 1 (hL 1 (by decide))
    clear hx hI hL hok L
    have hx := hx'
    clear hx'
    simp only [putP, Act.put, List.setIfInBounds_toArray, List.set_cons_zero, List.set_cons_succ, hs_49_10, hs_50_10]
    go_upto_region 11 with fail
    have hok : TrsOk [] W9.heap.size ([] : List Trk) := ⟨by simp, by simp, by simp, by simp⟩
    refine wp_region_text (InvN [] (fun j u => match j with | 0 => u = .bool (true) | 1 => u = .bool (true) | 2 => u = errPoint | 3 => u = .iface 30 (.int .i64 29) | 4 => u = .bool (true) | 5 => u = .bool (true) | 6 => u = .bool (true) | 7 => u = .agg (pc (fun _ => 0) (fun _ => 0)) | 8 => u = .agg (pc (fun _ => 0) (fun _ => 0)) | 9 => u = .bool (true) | 10 => u = .bool (true) | 11 => u = .bool (true) | _ => True) (fun _ => none) (fun _ => none) [] W9) plan_10_11 [(51, 0), (52, 1), (53, 2), (54, 3), (55, 4), (56, 5), (57, 6), (58, 7), (59, 8), (60, 9), (61, 10), (6, 11)] 77 rfl (by kernel_rfl) (InvN.of (Inv.start0 hok (by simp))) ⟨?_, ?_, ?_, ?_, ?_, ?_, ?_, ?_, ?_, ?_, ?_, ?_, trivial⟩ ?_
    · intro L v w hL hD hC hI
      refine ⟨fun _ => ?_, fun hw => by cases hw⟩
      refine hI.val0 hL (by simp) rfl rfl ?_
      rw [show readsOf plan_10_11 0 = [] from rfl]
      first | exact ⟨rfl, Ext.refl _⟩ | (go_simp; exact ⟨rfl, Ext.refl _⟩)
    · intro L v w hL hD hC hI
      refine ⟨fun _ => ?_, fun hw => by cases hw⟩
      have h0 : (v 0) = .bool (true) := hI.inv.val 0 (hD 0 (by decide))
      refine hI.val0 hL (by simp) rfl rfl ?_
      rw [show readsOf plan_10_11 1 = [(51, 0)] from rfl]
      exact ⟨h0, Ext.refl _⟩
    · intro L v w hL hD hC hI
      have hg : v 1 = .bool true := hI.inv.val 1 (hD 1 (by decide))
      refine ⟨fun _ => ?_, fun hw => by simp [wantedV, hg] at hw⟩
      have h1 : (v 1) = .bool (true) := hI.inv.val 1 (hD 1 (by decide))
      refine hI.val0 hL (by simp) rfl rfl ?_
      rw [show readsOf plan_10_11 2 = [(52, 1)] from rfl]
      first | exact ⟨rfl, Ext.refl _⟩ | (go_simp; exact ⟨rfl, Ext.refl _⟩)
    · intro L v w hL hD hC hI
      have hg : v 1 = .bool true := hI.inv.val 1 (hD 1 (by decide))
      refine ⟨fun _ => ?_, fun hw => by simp [wantedV, hg] at hw⟩
      have h1 : (v 1) = .bool (true) := hI.inv.val 1 (hD 1 (by decide))
      refine hI.val0 hL (by simp) rfl rfl ?_
      rw [show readsOf plan_10_11 3 = [(52, 1)] from rfl]
      go_simp
      exact ⟨rfl, Ext.refl _⟩
    · intro L v w hL hD hC hI
      have hg : v 1 = .bool true := hI.inv.val 1 (hD 1 (by decide))
      refine ⟨fun _ => ?_, fun hw => by simp [wantedV, hg] at hw⟩
      have h1 : (v 1) = .bool (true) := hI.inv.val 1 (hD 1 (by decide))
      have h2 : (v 2) = errPoint := hI.inv.val 2 (hD 2 (by decide))
      have h3 : (v 3) = .iface 30 (.int .i64 29) := hI.inv.val 3 (hD 3 (by decide))
      refine hI.val0 hL (by simp) rfl rfl ?_
      rw [show readsOf plan_10_11 4 = [(52, 1), (53, 2), (54, 3)] from rfl]
      exact give_errEq _ _ _ rfl h2 h3 ⟨rfl, Ext.refl _⟩
    · intro L v w hL hD hC hI
      refine ⟨fun _ => ?_, fun hw => by cases hw⟩
      have h1 : (v 1) = .bool (true) := hI.inv.val 1 (hD 1 (by decide))
      have h4 : (v 4) = .bool (true) := hI.inv.val 4 (hD 4 (by decide))
      refine hI.val0 hL (by simp) rfl rfl ?_
      rw [show readsOf plan_10_11 5 = [(52, 1), (55, 4)] from rfl]
      exact give_pick_t _ _ _ rfl h1 ⟨h4, Ext.refl _⟩
    · intro L v w hL hD hC hI
      refine ⟨fun _ => ?_, fun hw => by cases hw⟩
      have h5 : (v 5) = .bool (true) := hI.inv.val 5 (hD 5 (by decide))
      refine hI.val0 hL (by simp) rfl rfl ?_
      rw [show readsOf plan_10_11 6 = [(56, 5)] from rfl]
      exact ⟨h5, Ext.refl _⟩
    · intro L v w hL hD hC hI
      have hg : v 6 = .bool true := hI.inv.val 6 (hD 6 (by decide))
      refine ⟨fun _ => ?_, fun hw => by simp [wantedV, hg] at hw⟩
      have h6 : (v 6) = .bool (true) := hI.inv.val 6 (hD 6 (by decide))
      refine hI.val0 hL (by simp) rfl rfl ?_
      rw [show readsOf plan_10_11 7 = [(57, 6)] from rfl]
      exact ld_P (R_u_.keep hI.inv.keep (by simp)) _ rfl rfl fun u hu => ⟨hu, Ext.refl _⟩
    · intro L v w hL hD hC hI
      have hg : v 6 = .bool true := hI.inv.val 6 (hD 6 (by decide))
      refine ⟨fun _ => ?_, fun hw => by simp [wantedV, hg] at hw⟩
      have h6 : (v 6) = .bool (true) := hI.inv.val 6 (hD 6 (by decide))
      refine hI.val0 hL (by simp) rfl rfl ?_
      rw [show readsOf plan_10_11 8 = [(57, 6)] from rfl]
      exact give_zeroP rfl ⟨rfl, Ext.refl _⟩
    · intro L v w hL hD hC hI
      have hg : v 6 = .bool true := hI.inv.val 6 (hD 6 (by decide))
      refine ⟨fun _ => ?_, fun hw => by simp [wantedV, hg] at hw⟩
      have h6 : (v 6) = .bool (true) := hI.inv.val 6 (hD 6 (by decide))
      have h7 : (v 7) = .agg (pc (fun _ => 0) (fun _ => 0)) := hI.inv.val 7 (hD 7 (by decide))
      have h8 : (v 8) = .agg (pc (fun _ => 0) (fun _ => 0)) := hI.inv.val 8 (hD 8 (by decide))
      refine hI.val0 hL (by simp) rfl rfl ?_
      rw [show readsOf plan_10_11 9 = [(57, 6), (58, 7), (59, 8)] from rfl]
      exact give_eqP _ _ _ _ _ _ _ rfl h7 h8 ⟨by simp [beqb_self], Ext.refl _⟩
    · intro L v w hL hD hC hI
      refine ⟨fun _ => ?_, fun hw => by cases hw⟩
      have h6 : (v 6) = .bool (true) := hI.inv.val 6 (hD 6 (by decide))
      have h9 : (v 9) = .bool (true) := hI.inv.val 9 (hD 9 (by decide))
      refine hI.val0 hL (by simp) rfl rfl ?_
      rw [show readsOf plan_10_11 10 = [(57, 6), (60, 9)] from rfl]
      exact give_pick_t _ _ _ rfl h6 ⟨h9, Ext.refl _⟩
    · intro L v w hL hD hC hI
      refine ⟨fun _ => ?_, fun hw => by cases hw⟩
      have h10 : (v 10) = .bool (true) := hI.inv.val 10 (hD 10 (by decide))
      refine hI.val0 hL (by simp) rfl rfl ?_
      rw [show readsOf plan_10_11 11 = [(61, 10)] from rfl]
      exact ⟨h10, Ext.refl _⟩
    intro L v10 W10 hL hI
    replace R_k1 := R_k1.keep hI.inv.keep (by simp)
    replace R_k2 := R_k2.keep hI.inv.keep (by simp)
    replace R_raw := R_raw.keep hI.inv.keep (by simp)
    replace R_p := R_p.keep hI.inv.keep (by simp)
    replace R_t := R_t.keep hI.inv.keep (by simp)
    replace R_u_ := R_u_.keep hI.inv.keep (by simp)
    have hx' : Ext w W10 := hx.trans hI.inv.keep.to_ext
    have hs_51_11 : (v10 0) = .bool (true) := hI.inv.val 0 (hL 0 (by decide))
    have hs_52_11 : (v10 1) = .bool (true) := hI.inv.val 1 (hL 1 (by decide))
    have hs_53_11 : (v10 2) = errPoint := hI.inv.val 2 (hL 2 (by decide))
    have hs_57_11 : (v10 6) = .bool (true) := hI.inv.val 6 (hL 6 (by decide))
    have hs_6_11 : (v10 11) = .bool (true) := hI.inv.val 11 (hL 11 (by decide))
    clear hx hI hL hok L
    have hx := hx'
    clear hx'
    simp only [putP, Act.put, List.setIfInBounds_toArray, List.set_cons_zero, List.set_cons_succ, hs_51_11, hs_52_11, hs_53_11, hs_57_11, hs_6_11]
    go_wp2
    go_ret
    exact ⟨rfl, hx⟩
end Go.Proofs.Ytndohjgfjbopnaa
