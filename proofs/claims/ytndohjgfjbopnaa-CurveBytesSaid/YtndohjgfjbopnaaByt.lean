/-
  The walk of the statement CurveBytes.
-/
import Derived.Test.YtndohjgfjbopnaaComR
import Derived.Test.YtndohjgfjbopnaaRdc
import Derived.Test.YtndohjgfjbopnaaGiv
set_option linter.unusedSimpArgs false
set_option linter.unusedVariables false
namespace Go.Proofs.Ytndohjgfjbopnaa
open Go.RowKit Go.Cv Go.Cv.Pr Go.Cv.Grp
def plan_11_0 : List Plan := [⟨[], []⟩, ⟨[], []⟩, ⟨[], []⟩]
def plan_11_1 : List Plan := [⟨[], []⟩, ⟨[0], [(13, 0)]⟩]
def plan_11_2 : List Plan := [⟨[], []⟩, ⟨[0], [(15, 0)]⟩, ⟨[0, 1], [(16, 1)]⟩, ⟨[0, 1, 2], [(14, 2)]⟩, ⟨[0, 1, 2], [(14, 2)]⟩, ⟨[], []⟩, ⟨[0, 1, 2, 3, 5], [(17, 3), (6, 5)]⟩, ⟨[0, 1, 2, 3, 4, 5, 6], [(18, 4)]⟩]
def plan_11_3 : List Plan := [⟨[], []⟩, ⟨[0], [(20, 0)]⟩, ⟨[0, 1], [(21, 1)]⟩, ⟨[0, 1, 2], [(19, 2)]⟩, ⟨[0, 1, 2], [(19, 2)]⟩, ⟨[], []⟩, ⟨[0, 1, 2, 3, 5], [(22, 3), (8, 5)]⟩, ⟨[0, 1, 2, 3, 4, 5, 6], [(23, 4)]⟩]
def plan_11_4 : List Plan := [⟨[], []⟩, ⟨[], []⟩, ⟨[1], [(25, 1)]⟩, ⟨[0, 1, 2], [(24, 0), (26, 2)]⟩, ⟨[0, 1, 2, 3], [(27, 3)]⟩, ⟨[0, 1, 2, 3, 4], [(28, 4)]⟩, ⟨[0, 1, 2, 3, 4, 5], [(28, 4), (29, 5)]⟩, ⟨[0, 1, 2, 3, 4, 5, 6], [(28, 4), (30, 6)]⟩, ⟨[0, 1, 2, 3, 4, 5, 6, 7], [(31, 7)]⟩, ⟨[0, 1, 2, 3, 4, 5, 6, 7], [(31, 7)]⟩, ⟨[0, 1, 2, 3, 4, 5, 6, 7, 8, 9], [(31, 7), (32, 8), (33, 9)]⟩, ⟨[0, 1, 2, 3, 4, 5, 6, 7, 8, 9, 10], [(31, 7), (34, 10)]⟩, ⟨[0, 1, 2, 3, 4, 5, 6, 7, 8, 9, 10, 11], [(35, 11)]⟩, ⟨[0, 1, 2, 3, 4, 5, 6, 7, 8, 9, 10, 11], [(35, 11)]⟩, ⟨[0, 1, 2, 3, 4, 5, 6, 7, 8, 9, 10, 11, 12, 13], [(35, 11), (36, 12), (37, 13)]⟩, ⟨[0, 1, 2, 3, 4, 5, 6, 7, 8, 9, 10, 11, 12, 13, 14], [(31, 7), (35, 11), (38, 14)]⟩, ⟨[0, 1, 2, 3, 4, 5, 6, 7, 8, 9, 10, 11, 12, 13, 14, 15], [(28, 4), (31, 7), (39, 15)]⟩, ⟨[0, 1, 2, 3, 4, 5, 6, 7, 8, 9, 10, 11, 12, 13, 14, 15, 16], [(28, 4), (40, 16)]⟩, ⟨[0, 1, 2, 3, 4, 5, 6, 7, 8, 9, 10, 11, 12, 13, 14, 15, 16, 17], [(41, 17)]⟩, ⟨[0, 1, 2, 3, 4, 5, 6, 7, 8, 9, 10, 11, 12, 13, 14, 15, 16, 17, 18], [(42, 18)]⟩, ⟨[0, 1, 2, 3, 4, 5, 6, 7, 8, 9, 10, 11, 12, 13, 14, 15, 16, 17, 18, 19], [(42, 18), (43, 19)]⟩, ⟨[0, 1, 2, 3, 4, 5, 6, 7, 8, 9, 10, 11, 12, 13, 14, 15, 16, 17, 18, 19, 20], [(44, 20)]⟩, ⟨[0, 1, 2, 3, 4, 5, 6, 7, 8, 9, 10, 11, 12, 13, 14, 15, 16, 17, 18, 19, 20], [(44, 20)]⟩, ⟨[0, 1, 2, 3, 4, 5, 6, 7, 8, 9, 10, 11, 12, 13, 14, 15, 16, 17, 18, 19, 20, 21, 22], [(44, 20), (45, 21), (46, 22)]⟩, ⟨[0, 1, 2, 3, 4, 5, 6, 7, 8, 9, 10, 11, 12, 13, 14, 15, 16, 17, 18, 19, 20, 21, 22, 23], [(42, 18), (44, 20), (47, 23)]⟩, ⟨[0, 1, 2, 3, 4, 5, 6, 7, 8, 9, 10, 11, 12, 13, 14, 15, 16, 17, 18, 19, 20, 21, 22, 23, 24], [(42, 18), (48, 24)]⟩]
def plan_11_6 : List Plan := [⟨[], []⟩, ⟨[0], [(51, 0)]⟩, ⟨[0, 1], [(52, 1)]⟩, ⟨[0, 1, 2], [(50, 2)]⟩, ⟨[0, 1, 2], [(50, 2)]⟩, ⟨[], []⟩, ⟨[0, 1, 2, 3, 5], [(53, 3), (10, 5)]⟩, ⟨[0, 1, 2, 3, 4, 5, 6], [(54, 4)]⟩]
def plan_11_7 : List Plan := [⟨[], []⟩, ⟨[0], [(55, 0)]⟩, ⟨[0, 1], [(56, 1)]⟩]
def plan_11_8 : List Plan := [⟨[], []⟩, ⟨[0], [(57, 0)]⟩]
def plan_11_10 : List Plan := [⟨[], []⟩, ⟨[0], [(70, 0)]⟩, ⟨[0, 1], [(71, 1)]⟩, ⟨[0, 1, 2], [(71, 1), (72, 2)]⟩, ⟨[0, 1, 2, 3], [(71, 1), (73, 3)]⟩, ⟨[0, 1, 2, 3, 4], [(74, 4)]⟩, ⟨[0, 1, 2, 3, 4, 5], [(75, 5)]⟩, ⟨[0, 1, 2, 3, 4, 5], [(75, 5)]⟩, ⟨[0, 1, 2, 3, 4, 5, 7], [(75, 5), (77, 7)]⟩, ⟨[0, 1, 2, 3, 4, 5, 6, 7, 8], [(75, 5), (76, 6), (78, 8)]⟩, ⟨[0, 1, 2, 3, 4, 5, 6, 7, 8, 9], [(75, 5), (79, 9)]⟩, ⟨[0, 1, 2, 3, 4, 5, 6, 7, 8, 9, 10], [(80, 10)]⟩]
def plan_11_9 : List Plan := [⟨[], []⟩, ⟨[0], [(59, 0)]⟩, ⟨[0, 1], [(60, 1)]⟩, ⟨[0, 1], [(60, 1)]⟩, ⟨[0, 1, 2, 3], [(60, 1), (61, 2), (62, 3)]⟩, ⟨[0, 1, 2, 3, 4], [(60, 1), (63, 4)]⟩, ⟨[0, 1, 2, 3, 4, 5], [(64, 5)]⟩, ⟨[0, 1, 2, 3, 4, 5, 6], [(65, 6)]⟩, ⟨[0, 1, 2, 3, 4, 5, 6], [(65, 6)]⟩, ⟨[0, 1, 2, 3, 4, 5, 6, 7, 8], [(65, 6), (66, 7), (67, 8)]⟩, ⟨[0, 1, 2, 3, 4, 5, 6, 7, 8, 9], [(65, 6), (68, 9)]⟩, ⟨[0, 1, 2, 3, 4, 5, 6, 7, 8, 9, 10], [(69, 10)]⟩]
set_option maxRecDepth 20000 in
set_option maxHeartbeats 40000000 in
theorem bytes_any_ (f1 rf rg : Nat → UInt8) (w : World) :
    Calls Try.prog 11 #[.agg (bcells f1), .agg (pc rf rg)] w fun e w' => e = .returned (.bool true) ∧ Ext w w' := by
  have hc := cdec_any f1
  have hr := rdec_any f1
  generalize decY f1 = y at hc hr
  generalize decX f1 = dd at hc hr
  go_enter Try.func11, Try.ntmps11
  have hx : Ext w w := Ext.refl w
  go_upto_region 0 with fail
  have hok : TrsOk [] w.heap.size ([⟨some 0, 0, 22, none, fun cs => (Value.agg (List.toArray cs)) = .agg (bcells (f1)), fun _ => True⟩, ⟨some 1, 0, 43, none, fun cs => (Value.agg (List.toArray cs)) = .agg (pc (rf) (rg)), fun _ => True⟩] : List Trk) := ⟨by simp, by simp, by simp, by simp⟩
  refine wp_region_text (InvN [] (fun j u => match j with | 2 => u = .bool false | _ => True) (fun _ => none) (fun _ => none) [⟨some 0, 0, 22, none, fun cs => (Value.agg (List.toArray cs)) = .agg (bcells (f1)), fun _ => True⟩, ⟨some 1, 0, 43, none, fun cs => (Value.agg (List.toArray cs)) = .agg (pc (rf) (rg)), fun _ => True⟩] w) plan_11_0 [(2, 0), (3, 1), (4, 2)] 81 rfl (by kernel_rfl) (InvN.of (Inv.start0 hok (by simp))) ⟨?_, ?_, ?_, trivial⟩ ?_
  · intro L v w hL hD hC hI
    refine ⟨fun _ => ?_, fun hw => by cases hw⟩
    refine InvN.alloc_step hok hI hL ⟨some 0, 0, 22, none, fun cs => (Value.agg (List.toArray cs)) = .agg (bcells (f1)), fun _ => True⟩ (by simp) rfl (by simp) (by intro s hs; cases hs) rfl rfl ?_
    rw [show readsOf plan_11_0 0 = [] from rfl]
    exact ⟨trivial, rfl, (bcells f1).toList, by first | rfl | (rw [Array.toArray_toList]; rfl), by show (Value.agg _ = Value.agg _); rw [Array.toArray_toList]⟩
  · intro L v w hL hD hC hI
    refine ⟨fun _ => ?_, fun hw => by cases hw⟩
    refine InvN.alloc_step hok hI hL ⟨some 1, 0, 43, none, fun cs => (Value.agg (List.toArray cs)) = .agg (pc (rf) (rg)), fun _ => True⟩ (by simp) rfl (by simp) (by intro s hs; cases hs) rfl rfl ?_
    rw [show readsOf plan_11_0 1 = [] from rfl]
    exact ⟨trivial, rfl, pcL rf rg, rfl, by show (Value.agg _ = Value.agg _); rfl⟩
  · intro L v w hL hD hC hI
    refine ⟨fun _ => ?_, fun hw => by cases hw⟩
    refine hI.val0 hL (by simp) rfl rfl ?_
    rw [show readsOf plan_11_0 2 = [] from rfl]
    first | exact ⟨rfl, Ext.refl _⟩ | (go_simp; exact ⟨rfl, Ext.refl _⟩)
  intro L v1 W1 hL hI
  obtain ⟨k1, cs, hb_k1, lo_k1, hr, hn, ho⟩ := hI.inv.row_made ⟨some 0, 0, 22, none, fun cs => (Value.agg (List.toArray cs)) = .agg (bcells (f1)), fun _ => True⟩ (by simp) 0 rfl (hL 0 (by decide))
  have R_k1 : RV W1 k1 22 (fun u => u = .agg (bcells (f1))) := ⟨cs, hr, ho (by intro s hs; cases hs)⟩
  clear hr hn ho
  obtain ⟨raw, cs, hb_raw, lo_raw, hr, hn, ho⟩ := hI.inv.row_made ⟨some 1, 0, 43, none, fun cs => (Value.agg (List.toArray cs)) = .agg (pc (rf) (rg)), fun _ => True⟩ (by simp) 1 rfl (hL 1 (by decide))
  have R_raw : RV W1 raw 43 (fun u => u = .agg (pc (rf) (rg))) := ⟨cs, hr, ho (by intro s hs; cases hs)⟩
  clear hr hn ho
  have hx' : Ext w W1 := hx.trans hI.inv.keep.to_ext
  have hs_4_0 : (v1 2) = .bool false := hI.inv.val 2 (hL 2 (by decide))
  clear hx hI hL hok L
  have hx := hx'
  clear hx'
  simp only [putP, Act.put, List.setIfInBounds_toArray, List.set_cons_zero, List.set_cons_succ, hb_k1, hb_raw, hs_4_0]
  go_upto_region 1 with fail
  have hok : TrsOk [] W1.heap.size ([] : List Trk) := ⟨by simp, by simp, by simp, by simp⟩
  refine wp_region_text (InvN [] (fun j u => match j with | 0 => u = .bool (true) | 1 => u = .bool (true) | _ => True) (fun _ => none) (fun _ => none) [] W1) plan_11_1 [(13, 0), (5, 1)] 81 rfl (by kernel_rfl) (InvN.of (Inv.start0 hok (by simp))) ⟨?_, ?_, trivial⟩ ?_
  · intro L v w hL hD hC hI
    refine ⟨fun _ => ?_, fun hw => by cases hw⟩
    refine hI.val0 hL (by simp) rfl rfl ?_
    rw [show readsOf plan_11_1 0 = [] from rfl]
    refine give_call _ _ _ _ rfl rfl Try.func28 (by kernel_rfl) (by kernel_rfl) ?_
    refine Calls.mono (shown7_any w) ?_
    rintro e w' ⟨rfl, hx⟩
    exact ⟨_, rfl, rfl, hx⟩
  · intro L v w hL hD hC hI
    refine ⟨fun _ => ?_, fun hw => by cases hw⟩
    have h0 : (v 0) = .bool (true) := hI.inv.val 0 (hD 0 (by decide))
    refine hI.val0 hL (by simp) rfl rfl ?_
    rw [show readsOf plan_11_1 1 = [(13, 0)] from rfl]
    exact ⟨h0, Ext.refl _⟩
  intro L v2 W2 hL hI
  replace R_k1 := R_k1.keep hI.inv.keep (by simp)
  replace R_raw := R_raw.keep hI.inv.keep (by simp)
  have hx' : Ext w W2 := hx.trans hI.inv.keep.to_ext
  have hs_5_1 : (v2 1) = .bool (true) := hI.inv.val 1 (hL 1 (by decide))
  clear hx hI hL hok L
  have hx := hx'
  clear hx'
  simp only [putP, Act.put, List.setIfInBounds_toArray, List.set_cons_zero, List.set_cons_succ, hs_5_1]
  rcases dd with _ | x
  · skip
    rw [decV_none] at hc
    rw [rdV_none] at hr
    go_upto_region 2 with fail
    have hok : TrsOk [] W2.heap.size ([⟨some 5, 0, 43, some 6, fun cs => (Value.agg (List.toArray cs)) = .agg (pc (fun _ => 0) (fun _ => 0)), fun cs => (Value.agg (List.toArray cs)) = .agg (pc (fun _ => 0) (fun _ => 0))⟩] : List Trk) := ⟨by simp, by simp, by simp, by simp⟩
    refine wp_region_text (InvN [] (fun j u => match j with | 0 => u = .agg (bcells (f1)) | 1 => u = .tuple #[.agg (pc (fun _ => 0) (fun _ => 0)), errPoint] | 2 => u = .tuple #[.agg (pc (fun _ => 0) (fun _ => 0)), errPoint] | 3 => u = .agg (pc (fun _ => 0) (fun _ => 0)) | 4 => u = errPoint | 7 => u = errPoint | _ => True) (fun _ => none) (fun _ => none) [⟨some 5, 0, 43, some 6, fun cs => (Value.agg (List.toArray cs)) = .agg (pc (fun _ => 0) (fun _ => 0)), fun cs => (Value.agg (List.toArray cs)) = .agg (pc (fun _ => 0) (fun _ => 0))⟩] W2) plan_11_2 [(15, 0), (16, 1), (14, 2), (17, 3), (18, 4), (6, 5), (7, 7)] 81 rfl (by kernel_rfl) (InvN.of (Inv.start0 hok (by simp))) ⟨?_, ?_, ?_, ?_, ?_, ?_, ?_, ?_, trivial⟩ ?_
    · intro L v w hL hD hC hI
      refine ⟨fun _ => ?_, fun hw => by cases hw⟩
      refine hI.val0 hL (by simp) rfl rfl ?_
      rw [show readsOf plan_11_2 0 = [] from rfl]
      exact ld_B (R_k1.keep hI.inv.keep (by simp)) _ rfl rfl fun u hu => ⟨hu, Ext.refl _⟩
    · intro L v w hL hD hC hI
      refine ⟨fun _ => ?_, fun hw => by cases hw⟩
      have h0 : (v 0) = .agg (bcells (f1)) := hI.inv.val 0 (hD 0 (by decide))
      refine hI.val0 hL (by simp) rfl rfl ?_
      rw [show readsOf plan_11_2 1 = [(15, 0)] from rfl]
      refine give_call _ _ _ _ rfl rfl Try.func52 (by kernel_rfl) (by kernel_rfl) ?_
      refine Calls.mono (calls_eq (hc w) (args' := #[v 0]) (by rw [h0])) ?_
      rintro e w' ⟨rfl, hx⟩
      exact ⟨_, rfl, rfl, hx⟩
    · intro L v w hL hD hC hI
      refine ⟨fun _ => ?_, fun hw => by cases hw⟩
      have h1 : (v 1) = .tuple #[.agg (pc (fun _ => 0) (fun _ => 0)), errPoint] := hI.inv.val 1 (hD 1 (by decide))
      refine hI.val0 hL (by simp) rfl rfl ?_
      rw [show readsOf plan_11_2 2 = [(16, 1)] from rfl]
      exact ⟨h1, Ext.refl _⟩
    · intro L v w hL hD hC hI
      refine ⟨fun _ => ?_, fun hw => by cases hw⟩
      have h2 : (v 2) = .tuple #[.agg (pc (fun _ => 0) (fun _ => 0)), errPoint] := hI.inv.val 2 (hD 2 (by decide))
      refine hI.val0 hL (by simp) rfl rfl ?_
      rw [show readsOf plan_11_2 3 = [(14, 2)] from rfl]
      exact give_ext _ _ _ rfl h2 _ rfl ⟨rfl, Ext.refl _⟩
    · intro L v w hL hD hC hI
      refine ⟨fun _ => ?_, fun hw => by cases hw⟩
      have h2 : (v 2) = .tuple #[.agg (pc (fun _ => 0) (fun _ => 0)), errPoint] := hI.inv.val 2 (hD 2 (by decide))
      refine hI.val0 hL (by simp) rfl rfl ?_
      rw [show readsOf plan_11_2 4 = [(14, 2)] from rfl]
      exact give_ext _ _ _ rfl h2 _ rfl ⟨rfl, Ext.refl _⟩
    · intro L v w hL hD hC hI
      refine ⟨fun _ => ?_, fun hw => by cases hw⟩
      refine InvN.alloc_step hok hI hL ⟨some 5, 0, 43, some 6, fun cs => (Value.agg (List.toArray cs)) = .agg (pc (fun _ => 0) (fun _ => 0)), fun cs => (Value.agg (List.toArray cs)) = .agg (pc (fun _ => 0) (fun _ => 0))⟩ (by simp) rfl (by simp) (by intro s hs; cases hs; exact not_yet hC hL (by decide)) rfl rfl ?_
      rw [show readsOf plan_11_2 5 = [] from rfl]
      go_simp
      first | exact ⟨rfl, pcL (fun _ => 0) (fun _ => 0), rfl, rfl⟩ | exact ⟨trivial, rfl, pcL (fun _ => 0) (fun _ => 0), rfl, rfl⟩ | exact ⟨rfl, (bcells fun _ => 0).toList, by rw [Array.toArray_toList], by rw [Array.toArray_toList]⟩
    · intro L v w hL hD hC hI
      refine ⟨fun _ => ?_, fun hw => by cases hw⟩
      have h3 : (v 3) = .agg (pc (fun _ => 0) (fun _ => 0)) := hI.inv.val 3 (hD 3 (by decide))
      refine InvN.store_step hok hI hL ⟨some 5, 0, 43, some 6, fun cs => (Value.agg (List.toArray cs)) = .agg (pc (fun _ => 0) (fun _ => 0)), fun cs => (Value.agg (List.toArray cs)) = .agg (pc (fun _ => 0) (fun _ => 0))⟩ (by simp) rfl (by simp) (by intro k hk; cases hk; exact hD 5 (by decide)) rfl rfl (fun cs h => by rw [pcL_of h]; exact noI_pc _ _) ?_
      intro n cs hb hR hold
      change v 5 = .pointer (some ⟨n, 0, none⟩) at hb
      rw [show readsOf plan_11_2 6 = [(17, 3), (6, 5)] from rfl]
      exact st_P hR (by rw [pcL_of hold]; exact pcL_len _ _) _ _ rfl hb h3 fun w' cs' hr he hk => ⟨trivial, hk, cs', hr, he⟩
    · intro L v w hL hD hC hI
      refine ⟨fun _ => ?_, fun hw => by cases hw⟩
      have h4 : (v 4) = errPoint := hI.inv.val 4 (hD 4 (by decide))
      refine hI.val0 hL (by simp) rfl rfl ?_
      rw [show readsOf plan_11_2 7 = [(18, 4)] from rfl]
      exact ⟨h4, Ext.refl _⟩
    intro L v3 W3 hL hI
    obtain ⟨p, cs, hb_p, lo_p, hr, hn, ho⟩ := hI.inv.row_made ⟨some 5, 0, 43, some 6, fun cs => (Value.agg (List.toArray cs)) = .agg (pc (fun _ => 0) (fun _ => 0)), fun cs => (Value.agg (List.toArray cs)) = .agg (pc (fun _ => 0) (fun _ => 0))⟩ (by simp) 5 rfl (hL 5 (by decide))
    have R_p : RV W3 p 43 (fun u => u = .agg (pc (fun _ => 0) (fun _ => 0))) := ⟨cs, hr, hn 6 rfl (hL 6 (by decide))⟩
    clear hr hn ho
    replace R_k1 := R_k1.keep hI.inv.keep (by simp)
    replace R_raw := R_raw.keep hI.inv.keep (by simp)
    have hx' : Ext w W3 := hx.trans hI.inv.keep.to_ext
    have hs_7_2 : (v3 7) = errPoint := hI.inv.val 7 (hL 7 (by decide))
    clear hx hI hL hok L
    have hx := hx'
    clear hx'
    simp only [putP, Act.put, List.setIfInBounds_toArray, List.set_cons_zero, List.set_cons_succ, hb_p, hs_7_2]
    go_upto_region 3 with fail
    have hok : TrsOk [] W3.heap.size ([⟨some 5, 0, 43, some 6, fun cs => (Value.agg (List.toArray cs)) = .agg (pc (fun _ => 0) (fun _ => 0)), fun cs => (Value.agg (List.toArray cs)) = .agg (pc (fun _ => 0) (fun _ => 0))⟩] : List Trk) := ⟨by simp, by simp, by simp, by simp⟩
    refine wp_region_text (InvN [] (fun j u => match j with | 0 => u = .agg (bcells (f1)) | 1 => u = .tuple #[.agg (pc (fun _ => 0) (fun _ => 0)), .bool (false)] | 2 => u = .tuple #[.agg (pc (fun _ => 0) (fun _ => 0)), .bool (false)] | 3 => u = .agg (pc (fun _ => 0) (fun _ => 0)) | 4 => u = .bool (false) | 7 => u = .bool (false) | _ => True) (fun _ => none) (fun _ => none) [⟨some 5, 0, 43, some 6, fun cs => (Value.agg (List.toArray cs)) = .agg (pc (fun _ => 0) (fun _ => 0)), fun cs => (Value.agg (List.toArray cs)) = .agg (pc (fun _ => 0) (fun _ => 0))⟩] W3) plan_11_3 [(20, 0), (21, 1), (19, 2), (22, 3), (23, 4), (8, 5), (9, 7)] 81 rfl (by kernel_rfl) (InvN.of (Inv.start0 hok (by simp))) ⟨?_, ?_, ?_, ?_, ?_, ?_, ?_, ?_, trivial⟩ ?_
    · intro L v w hL hD hC hI
      refine ⟨fun _ => ?_, fun hw => by cases hw⟩
      refine hI.val0 hL (by simp) rfl rfl ?_
      rw [show readsOf plan_11_3 0 = [] from rfl]
      exact ld_B (R_k1.keep hI.inv.keep (by simp)) _ rfl rfl fun u hu => ⟨hu, Ext.refl _⟩
    · intro L v w hL hD hC hI
      refine ⟨fun _ => ?_, fun hw => by cases hw⟩
      have h0 : (v 0) = .agg (bcells (f1)) := hI.inv.val 0 (hD 0 (by decide))
      refine hI.val0 hL (by simp) rfl rfl ?_
      rw [show readsOf plan_11_3 1 = [(20, 0)] from rfl]
      refine give_call _ _ _ _ rfl rfl Try.func53 (by kernel_rfl) (by kernel_rfl) ?_
      refine Calls.mono (calls_eq (hr w) (args' := #[v 0]) (by rw [h0])) ?_
      rintro e w' ⟨rfl, hx⟩
      exact ⟨_, rfl, rfl, hx⟩
    · intro L v w hL hD hC hI
      refine ⟨fun _ => ?_, fun hw => by cases hw⟩
      have h1 : (v 1) = .tuple #[.agg (pc (fun _ => 0) (fun _ => 0)), .bool (false)] := hI.inv.val 1 (hD 1 (by decide))
      refine hI.val0 hL (by simp) rfl rfl ?_
      rw [show readsOf plan_11_3 2 = [(21, 1)] from rfl]
      exact ⟨h1, Ext.refl _⟩
    · intro L v w hL hD hC hI
      refine ⟨fun _ => ?_, fun hw => by cases hw⟩
      have h2 : (v 2) = .tuple #[.agg (pc (fun _ => 0) (fun _ => 0)), .bool (false)] := hI.inv.val 2 (hD 2 (by decide))
      refine hI.val0 hL (by simp) rfl rfl ?_
      rw [show readsOf plan_11_3 3 = [(19, 2)] from rfl]
      exact give_ext _ _ _ rfl h2 _ rfl ⟨rfl, Ext.refl _⟩
    · intro L v w hL hD hC hI
      refine ⟨fun _ => ?_, fun hw => by cases hw⟩
      have h2 : (v 2) = .tuple #[.agg (pc (fun _ => 0) (fun _ => 0)), .bool (false)] := hI.inv.val 2 (hD 2 (by decide))
      refine hI.val0 hL (by simp) rfl rfl ?_
      rw [show readsOf plan_11_3 4 = [(19, 2)] from rfl]
      exact give_ext _ _ _ rfl h2 _ rfl ⟨rfl, Ext.refl _⟩
    · intro L v w hL hD hC hI
      refine ⟨fun _ => ?_, fun hw => by cases hw⟩
      refine InvN.alloc_step hok hI hL ⟨some 5, 0, 43, some 6, fun cs => (Value.agg (List.toArray cs)) = .agg (pc (fun _ => 0) (fun _ => 0)), fun cs => (Value.agg (List.toArray cs)) = .agg (pc (fun _ => 0) (fun _ => 0))⟩ (by simp) rfl (by simp) (by intro s hs; cases hs; exact not_yet hC hL (by decide)) rfl rfl ?_
      rw [show readsOf plan_11_3 5 = [] from rfl]
      go_simp
      first | exact ⟨rfl, pcL (fun _ => 0) (fun _ => 0), rfl, rfl⟩ | exact ⟨trivial, rfl, pcL (fun _ => 0) (fun _ => 0), rfl, rfl⟩ | exact ⟨rfl, (bcells fun _ => 0).toList, by rw [Array.toArray_toList], by rw [Array.toArray_toList]⟩
    · intro L v w hL hD hC hI
      refine ⟨fun _ => ?_, fun hw => by cases hw⟩
      have h3 : (v 3) = .agg (pc (fun _ => 0) (fun _ => 0)) := hI.inv.val 3 (hD 3 (by decide))
      refine InvN.store_step hok hI hL ⟨some 5, 0, 43, some 6, fun cs => (Value.agg (List.toArray cs)) = .agg (pc (fun _ => 0) (fun _ => 0)), fun cs => (Value.agg (List.toArray cs)) = .agg (pc (fun _ => 0) (fun _ => 0))⟩ (by simp) rfl (by simp) (by intro k hk; cases hk; exact hD 5 (by decide)) rfl rfl (fun cs h => by rw [pcL_of h]; exact noI_pc _ _) ?_
      intro n cs hb hR hold
      change v 5 = .pointer (some ⟨n, 0, none⟩) at hb
      rw [show readsOf plan_11_3 6 = [(22, 3), (8, 5)] from rfl]
      exact st_P hR (by rw [pcL_of hold]; exact pcL_len _ _) _ _ rfl hb h3 fun w' cs' hr he hk => ⟨trivial, hk, cs', hr, he⟩
    · intro L v w hL hD hC hI
      refine ⟨fun _ => ?_, fun hw => by cases hw⟩
      have h4 : (v 4) = .bool (false) := hI.inv.val 4 (hD 4 (by decide))
      refine hI.val0 hL (by simp) rfl rfl ?_
      rw [show readsOf plan_11_3 7 = [(23, 4)] from rfl]
      exact ⟨h4, Ext.refl _⟩
    intro L v4 W4 hL hI
    obtain ⟨want, cs, hb_want, lo_want, hr, hn, ho⟩ := hI.inv.row_made ⟨some 5, 0, 43, some 6, fun cs => (Value.agg (List.toArray cs)) = .agg (pc (fun _ => 0) (fun _ => 0)), fun cs => (Value.agg (List.toArray cs)) = .agg (pc (fun _ => 0) (fun _ => 0))⟩ (by simp) 5 rfl (hL 5 (by decide))
    have R_want : RV W4 want 43 (fun u => u = .agg (pc (fun _ => 0) (fun _ => 0))) := ⟨cs, hr, hn 6 rfl (hL 6 (by decide))⟩
    clear hr hn ho
    replace R_k1 := R_k1.keep hI.inv.keep (by simp)
    replace R_raw := R_raw.keep hI.inv.keep (by simp)
    replace R_p := R_p.keep hI.inv.keep (by simp)
    have hx' : Ext w W4 := hx.trans hI.inv.keep.to_ext
    have hs_9_3 : (v4 7) = .bool (false) := hI.inv.val 7 (hL 7 (by decide))
    clear hx hI hL hok L
    have hx := hx'
    clear hx'
    simp only [putP, Act.put, List.setIfInBounds_toArray, List.set_cons_zero, List.set_cons_succ, hb_want, hs_9_3]
    go_upto_region 4 with fail
    have hok : TrsOk [] W4.heap.size ([] : List Trk) := ⟨by simp, by simp, by simp, by simp⟩
    refine wp_region_text (InvN [] (fun j u => match j with | 0 => u = .bool (false) | 1 => u = errPoint | 2 => u = .bool (false) | 3 => u = .bool (false) | 4 => u = .bool (false) | 5 => u = .bool (false) | 6 => u = .bool (true) | 7 => u = .bool (true) | 8 => u = errPoint | 9 => u = .iface 30 (.int .i64 29) | 10 => u = .bool (false) | 11 => u = .bool (false) | 12 => u = .agg (pc (fun _ => 0) (fun _ => 0)) | 13 => u = .agg (pc (fun _ => 0) (fun _ => 0)) | 14 => u = .bool (false) | 15 => u = .bool (false) | 16 => u = .bool (false) | 17 => u = .bool (false) | 18 => u = .bool (false) | 19 => u = .bool (false) | 20 => u = .bool (false) | 21 => u = undef | 22 => u = undef | 23 => u = undef | 24 => u = .bool (false) | 25 => u = .bool (false) | _ => True) (fun _ => none) (fun _ => none) [] W4) plan_11_4 [(24, 0), (25, 1), (26, 2), (27, 3), (28, 4), (29, 5), (30, 6), (31, 7), (32, 8), (33, 9), (34, 10), (35, 11), (36, 12), (37, 13), (38, 14), (39, 15), (40, 16), (41, 17), (42, 18), (43, 19), (44, 20), (45, 21), (46, 22), (47, 23), (48, 24), (49, 25)] 81 rfl (by kernel_rfl) (InvN.of (Inv.start0 hok (by simp))) ⟨?_, ?_, ?_, ?_, ?_, ?_, ?_, ?_, ?_, ?_, ?_, ?_, ?_, ?_, ?_, ?_, ?_, ?_, ?_, ?_, ?_, ?_, ?_, ?_, ?_, ?_, trivial⟩ ?_
    · intro L v w hL hD hC hI
      refine ⟨fun _ => ?_, fun hw => by cases hw⟩
      refine hI.val0 hL (by simp) rfl rfl ?_
      rw [show readsOf plan_11_4 0 = [] from rfl]
      first | exact ⟨rfl, Ext.refl _⟩ | (go_simp; exact ⟨rfl, Ext.refl _⟩)
    · intro L v w hL hD hC hI
      refine ⟨fun _ => ?_, fun hw => by cases hw⟩
      refine hI.val0 hL (by simp) rfl rfl ?_
      rw [show readsOf plan_11_4 1 = [] from rfl]
      first | exact ⟨rfl, Ext.refl _⟩ | (go_simp; exact ⟨rfl, Ext.refl _⟩)
    · intro L v w hL hD hC hI
      refine ⟨fun _ => ?_, fun hw => by cases hw⟩
      have h1 : (v 1) = errPoint := hI.inv.val 1 (hD 1 (by decide))
      refine hI.val0 hL (by simp) rfl rfl ?_
      rw [show readsOf plan_11_4 2 = [(25, 1)] from rfl]
      exact give_err_nil_eq _ _ rfl h1 rfl ⟨rfl, Ext.refl _⟩
    · intro L v w hL hD hC hI
      refine ⟨fun _ => ?_, fun hw => by cases hw⟩
      have h0 : (v 0) = .bool (false) := hI.inv.val 0 (hD 0 (by decide))
      have h2 : (v 2) = .bool (false) := hI.inv.val 2 (hD 2 (by decide))
      refine hI.val0 hL (by simp) rfl rfl ?_
      rw [show readsOf plan_11_4 3 = [(24, 0), (26, 2)] from rfl]
      exact give_bne _ _ _ rfl h0 h2 ⟨rfl, Ext.refl _⟩
    · intro L v w hL hD hC hI
      refine ⟨fun _ => ?_, fun hw => by cases hw⟩
      have h3 : (v 3) = .bool (false) := hI.inv.val 3 (hD 3 (by decide))
      refine hI.val0 hL (by simp) rfl rfl ?_
      rw [show readsOf plan_11_4 4 = [(27, 3)] from rfl]
      exact ⟨h3, Ext.refl _⟩
    · intro L v w hL hD hC hI
      have hg : v 4 = .bool false := hI.inv.val 4 (hD 4 (by decide))
      refine ⟨fun _ => ?_, fun hw => by simp [wantedV, hg] at hw⟩
      have h4 : (v 4) = .bool (false) := hI.inv.val 4 (hD 4 (by decide))
      refine hI.val0 hL (by simp) rfl rfl ?_
      rw [show readsOf plan_11_4 5 = [(28, 4)] from rfl]
      first | exact ⟨rfl, Ext.refl _⟩ | (go_simp; exact ⟨rfl, Ext.refl _⟩)
    · intro L v w hL hD hC hI
      have hg : v 4 = .bool false := hI.inv.val 4 (hD 4 (by decide))
      refine ⟨fun _ => ?_, fun hw => by simp [wantedV, hg] at hw⟩
      have h4 : (v 4) = .bool (false) := hI.inv.val 4 (hD 4 (by decide))
      have h5 : (v 5) = .bool (false) := hI.inv.val 5 (hD 5 (by decide))
      refine hI.val0 hL (by simp) rfl rfl ?_
      rw [show readsOf plan_11_4 6 = [(28, 4), (29, 5)] from rfl]
      exact give_not _ _ rfl h5 ⟨rfl, Ext.refl _⟩
    · intro L v w hL hD hC hI
      have hg : v 4 = .bool false := hI.inv.val 4 (hD 4 (by decide))
      refine ⟨fun _ => ?_, fun hw => by simp [wantedV, hg] at hw⟩
      have h4 : (v 4) = .bool (false) := hI.inv.val 4 (hD 4 (by decide))
      have h6 : (v 6) = .bool (true) := hI.inv.val 6 (hD 6 (by decide))
      refine hI.val0 hL (by simp) rfl rfl ?_
      rw [show readsOf plan_11_4 7 = [(28, 4), (30, 6)] from rfl]
      exact ⟨h6, Ext.refl _⟩
    · intro L v w hL hD hC hI
      have hg : v 7 = .bool true := hI.inv.val 7 (hD 7 (by decide))
      refine ⟨fun _ => ?_, fun hw => by simp [wantedV, hg] at hw⟩
      have h7 : (v 7) = .bool (true) := hI.inv.val 7 (hD 7 (by decide))
      refine hI.val0 hL (by simp) rfl rfl ?_
      rw [show readsOf plan_11_4 8 = [(31, 7)] from rfl]
      first | exact ⟨rfl, Ext.refl _⟩ | (go_simp; exact ⟨rfl, Ext.refl _⟩)
    · intro L v w hL hD hC hI
      have hg : v 7 = .bool true := hI.inv.val 7 (hD 7 (by decide))
      refine ⟨fun _ => ?_, fun hw => by simp [wantedV, hg] at hw⟩
      have h7 : (v 7) = .bool (true) := hI.inv.val 7 (hD 7 (by decide))
      refine hI.val0 hL (by simp) rfl rfl ?_
      rw [show readsOf plan_11_4 9 = [(31, 7)] from rfl]
      go_simp
      exact ⟨rfl, Ext.refl _⟩
    · intro L v w hL hD hC hI
      have hg : v 7 = .bool true := hI.inv.val 7 (hD 7 (by decide))
      refine ⟨fun _ => ?_, fun hw => by simp [wantedV, hg] at hw⟩
      have h7 : (v 7) = .bool (true) := hI.inv.val 7 (hD 7 (by decide))
      have h8 : (v 8) = errPoint := hI.inv.val 8 (hD 8 (by decide))
      have h9 : (v 9) = .iface 30 (.int .i64 29) := hI.inv.val 9 (hD 9 (by decide))
      refine hI.val0 hL (by simp) rfl rfl ?_
      rw [show readsOf plan_11_4 10 = [(31, 7), (32, 8), (33, 9)] from rfl]
      exact give_errNe _ _ _ rfl h8 h9 ⟨rfl, Ext.refl _⟩
    · intro L v w hL hD hC hI
      have hg : v 7 = .bool true := hI.inv.val 7 (hD 7 (by decide))
      refine ⟨fun _ => ?_, fun hw => by simp [wantedV, hg] at hw⟩
      have h7 : (v 7) = .bool (true) := hI.inv.val 7 (hD 7 (by decide))
      have h10 : (v 10) = .bool (false) := hI.inv.val 10 (hD 10 (by decide))
      refine hI.val0 hL (by simp) rfl rfl ?_
      rw [show readsOf plan_11_4 11 = [(31, 7), (34, 10)] from rfl]
      exact ⟨h10, Ext.refl _⟩
    · intro L v w hL hD hC hI
      have hg : v 11 = .bool false := hI.inv.val 11 (hD 11 (by decide))
      refine ⟨fun _ => ?_, fun hw => by simp [wantedV, hg] at hw⟩
      have h11 : (v 11) = .bool (false) := hI.inv.val 11 (hD 11 (by decide))
      refine hI.val0 hL (by simp) rfl rfl ?_
      rw [show readsOf plan_11_4 12 = [(35, 11)] from rfl]
      exact ld_P (R_p.keep hI.inv.keep (by simp)) _ rfl rfl fun u hu => ⟨hu, Ext.refl _⟩
    · intro L v w hL hD hC hI
      have hg : v 11 = .bool false := hI.inv.val 11 (hD 11 (by decide))
      refine ⟨fun _ => ?_, fun hw => by simp [wantedV, hg] at hw⟩
      have h11 : (v 11) = .bool (false) := hI.inv.val 11 (hD 11 (by decide))
      refine hI.val0 hL (by simp) rfl rfl ?_
      rw [show readsOf plan_11_4 13 = [(35, 11)] from rfl]
      exact give_zeroP rfl ⟨rfl, Ext.refl _⟩
    · intro L v w hL hD hC hI
      have hg : v 11 = .bool false := hI.inv.val 11 (hD 11 (by decide))
      refine ⟨fun _ => ?_, fun hw => by simp [wantedV, hg] at hw⟩
      have h11 : (v 11) = .bool (false) := hI.inv.val 11 (hD 11 (by decide))
      have h12 : (v 12) = .agg (pc (fun _ => 0) (fun _ => 0)) := hI.inv.val 12 (hD 12 (by decide))
      have h13 : (v 13) = .agg (pc (fun _ => 0) (fun _ => 0)) := hI.inv.val 13 (hD 13 (by decide))
      refine hI.val0 hL (by simp) rfl rfl ?_
      rw [show readsOf plan_11_4 14 = [(35, 11), (36, 12), (37, 13)] from rfl]
      exact give_neP _ _ _ _ _ _ _ rfl h12 h13 ⟨by simp [beqb_self], Ext.refl _⟩
    · intro L v w hL hD hC hI
      have hg : v 7 = .bool true := hI.inv.val 7 (hD 7 (by decide))
      refine ⟨fun _ => ?_, fun hw => by simp [wantedV, hg] at hw⟩
      have h7 : (v 7) = .bool (true) := hI.inv.val 7 (hD 7 (by decide))
      have h11 : (v 11) = .bool (false) := hI.inv.val 11 (hD 11 (by decide))
      have h14 : (v 14) = .bool (false) := hI.inv.val 14 (hD 14 (by decide))
      refine hI.val0 hL (by simp) rfl rfl ?_
      rw [show readsOf plan_11_4 15 = [(31, 7), (35, 11), (38, 14)] from rfl]
      exact give_pick_f _ _ _ rfl h11 ⟨h14, Ext.refl _⟩
    · intro L v w hL hD hC hI
      have hg : v 4 = .bool false := hI.inv.val 4 (hD 4 (by decide))
      refine ⟨fun _ => ?_, fun hw => by simp [wantedV, hg] at hw⟩
      have h4 : (v 4) = .bool (false) := hI.inv.val 4 (hD 4 (by decide))
      have h7 : (v 7) = .bool (true) := hI.inv.val 7 (hD 7 (by decide))
      have h15 : (v 15) = .bool (false) := hI.inv.val 15 (hD 15 (by decide))
      refine hI.val0 hL (by simp) rfl rfl ?_
      rw [show readsOf plan_11_4 16 = [(28, 4), (31, 7), (39, 15)] from rfl]
      exact give_pick_t _ _ _ rfl h7 ⟨h15, Ext.refl _⟩
    · intro L v w hL hD hC hI
      refine ⟨fun _ => ?_, fun hw => by cases hw⟩
      have h4 : (v 4) = .bool (false) := hI.inv.val 4 (hD 4 (by decide))
      have h16 : (v 16) = .bool (false) := hI.inv.val 16 (hD 16 (by decide))
      refine hI.val0 hL (by simp) rfl rfl ?_
      rw [show readsOf plan_11_4 17 = [(28, 4), (40, 16)] from rfl]
      exact give_pick_f _ _ _ rfl h4 ⟨h16, Ext.refl _⟩
    · intro L v w hL hD hC hI
      refine ⟨fun _ => ?_, fun hw => by cases hw⟩
      have h17 : (v 17) = .bool (false) := hI.inv.val 17 (hD 17 (by decide))
      refine hI.val0 hL (by simp) rfl rfl ?_
      rw [show readsOf plan_11_4 18 = [(41, 17)] from rfl]
      exact ⟨h17, Ext.refl _⟩
    · intro L v w hL hD hC hI
      have hg : v 18 = .bool false := hI.inv.val 18 (hD 18 (by decide))
      refine ⟨fun _ => ?_, fun hw => by simp [wantedV, hg] at hw⟩
      have h18 : (v 18) = .bool (false) := hI.inv.val 18 (hD 18 (by decide))
      refine hI.val0 hL (by simp) rfl rfl ?_
      rw [show readsOf plan_11_4 19 = [(42, 18)] from rfl]
      first | exact ⟨rfl, Ext.refl _⟩ | (go_simp; exact ⟨rfl, Ext.refl _⟩)
    · intro L v w hL hD hC hI
      have hg : v 18 = .bool false := hI.inv.val 18 (hD 18 (by decide))
      refine ⟨fun _ => ?_, fun hw => by simp [wantedV, hg] at hw⟩
      have h18 : (v 18) = .bool (false) := hI.inv.val 18 (hD 18 (by decide))
      have h19 : (v 19) = .bool (false) := hI.inv.val 19 (hD 19 (by decide))
      refine hI.val0 hL (by simp) rfl rfl ?_
      rw [show readsOf plan_11_4 20 = [(42, 18), (43, 19)] from rfl]
      exact ⟨h19, Ext.refl _⟩
    · intro L v w hL hD hC hI
      have hg : (v 20) = .bool (false) := hI.inv.val 20 (hD 20 (by decide))
      exact ⟨fun hw => by simp [wantedV, hg, undef] at hw, fun _ => (InvN.skip Try.prog hI hL (by simp) rfl rfl rfl)⟩
    · intro L v w hL hD hC hI
      have hg : (v 20) = .bool (false) := hI.inv.val 20 (hD 20 (by decide))
      exact ⟨fun hw => by simp [wantedV, hg, undef] at hw, fun _ => (InvN.skip Try.prog hI hL (by simp) rfl rfl rfl)⟩
    · intro L v w hL hD hC hI
      have hg : (v 20) = .bool (false) := hI.inv.val 20 (hD 20 (by decide))
      exact ⟨fun hw => by simp [wantedV, hg, undef] at hw, fun _ => (InvN.skip Try.prog hI hL (by simp) rfl rfl rfl)⟩
    · intro L v w hL hD hC hI
      have hg : v 18 = .bool false := hI.inv.val 18 (hD 18 (by decide))
      refine ⟨fun _ => ?_, fun hw => by simp [wantedV, hg] at hw⟩
      have h18 : (v 18) = .bool (false) := hI.inv.val 18 (hD 18 (by decide))
      have h20 : (v 20) = .bool (false) := hI.inv.val 20 (hD 20 (by decide))
      have h23 : (v 23) = undef := hI.inv.val 23 (hD 23 (by decide))
      refine hI.val0 hL (by simp) rfl rfl ?_
      rw [show readsOf plan_11_4 24 = [(42, 18), (44, 20), (47, 23)] from rfl]
      exact give_pick_f _ _ _ rfl h20 ⟨rfl, Ext.refl _⟩
    · intro L v w hL hD hC hI
      refine ⟨fun _ => ?_, fun hw => by cases hw⟩
      have h18 : (v 18) = .bool (false) := hI.inv.val 18 (hD 18 (by decide))
      have h24 : (v 24) = .bool (false) := hI.inv.val 24 (hD 24 (by decide))
      refine hI.val0 hL (by simp) rfl rfl ?_
      rw [show readsOf plan_11_4 25 = [(42, 18), (48, 24)] from rfl]
      exact give_pick_f _ _ _ rfl h18 ⟨h24, Ext.refl _⟩
    intro L v5 W5 hL hI
    replace R_k1 := R_k1.keep hI.inv.keep (by simp)
    replace R_raw := R_raw.keep hI.inv.keep (by simp)
    replace R_p := R_p.keep hI.inv.keep (by simp)
    replace R_want := R_want.keep hI.inv.keep (by simp)
    have hx' : Ext w W5 := hx.trans hI.inv.keep.to_ext
    have hs_24_4 : (v5 0) = .bool (false) := hI.inv.val 0 (hL 0 (by decide))
    have hs_25_4 : (v5 1) = errPoint := hI.inv.val 1 (hL 1 (by decide))
    have hs_28_4 : (v5 4) = .bool (false) := hI.inv.val 4 (hL 4 (by decide))
    have hs_29_4 : (v5 5) = .bool (false) := hI.inv.val 5 (hL 5 (by decide))
    have hs_31_4 : (v5 7) = .bool (true) := hI.inv.val 7 (hL 7 (by decide))
    have hs_32_4 : (v5 8) = errPoint := hI.inv.val 8 (hL 8 (by decide))
    have hs_35_4 : (v5 11) = .bool (false) := hI.inv.val 11 (hL 11 (by decide))
    have hs_42_4 : (v5 18) = .bool (false) := hI.inv.val 18 (hL 18 (by decide))
    have hs_43_4 : (v5 19) = .bool (false) := hI.inv.val 19 (hL 19 (by decide))
    have hs_44_4 : (v5 20) = .bool (false) := hI.inv.val 20 (hL 20 (by decide))
    have hs_49_4 : (v5 25) = .bool (false) := hI.inv.val 25 (hL 25 (by decide))
    clear hx hI hL hok L
    have hx := hx'
    clear hx'
    simp only [putP, Act.put, List.setIfInBounds_toArray, List.set_cons_zero, List.set_cons_succ, hs_24_4, hs_25_4, hs_28_4, hs_29_4, hs_31_4, hs_32_4, hs_35_4, hs_42_4, hs_43_4, hs_44_4, hs_49_4]
    clear R_k1
    clear R_p
    clear R_want
    go_upto_region 6 with fail
    by_cases hon : C7.on (tf (V rf)) (tf (V rg))
    · skip
      have hok : TrsOk [] W5.heap.size ([⟨some 5, 0, 22, some 6, fun cs => (Value.agg (List.toArray cs)) = .agg (bcells (fun _ => 0)), fun cs => (Value.agg (List.toArray cs)) = .agg (bcells (encF (tf (V (rf))) (tf (V (rg)))))⟩] : List Trk) := ⟨by simp, by simp, by simp, by simp⟩
      refine wp_region_text (InvN [] (fun j u => match j with | 0 => u = .agg (pc (rf) (rg)) | 1 => u = .tuple #[.agg (bcells (encF (tf (V (rf))) (tf (V (rg))))), .nilIface] | 2 => u = .tuple #[.agg (bcells (encF (tf (V (rf))) (tf (V (rg))))), .nilIface] | 3 => u = .agg (bcells (encF (tf (V (rf))) (tf (V (rg))))) | 4 => u = .nilIface | 7 => u = .nilIface | _ => True) (fun _ => none) (fun _ => none) [⟨some 5, 0, 22, some 6, fun cs => (Value.agg (List.toArray cs)) = .agg (bcells (fun _ => 0)), fun cs => (Value.agg (List.toArray cs)) = .agg (bcells (encF (tf (V (rf))) (tf (V (rg)))))⟩] W5) plan_11_6 [(51, 0), (52, 1), (50, 2), (53, 3), (54, 4), (10, 5), (11, 7)] 81 rfl (by kernel_rfl) (InvN.of (Inv.start0 hok (by simp))) ⟨?_, ?_, ?_, ?_, ?_, ?_, ?_, ?_, trivial⟩ ?_
      · intro L v w hL hD hC hI
        refine ⟨fun _ => ?_, fun hw => by cases hw⟩
        refine hI.val0 hL (by simp) rfl rfl ?_
        rw [show readsOf plan_11_6 0 = [] from rfl]
        exact ld_P (R_raw.keep hI.inv.keep (by simp)) _ rfl rfl fun u hu => ⟨hu, Ext.refl _⟩
      · intro L v w hL hD hC hI
        refine ⟨fun _ => ?_, fun hw => by cases hw⟩
        have h0 : (v 0) = .agg (pc (rf) (rg)) := hI.inv.val 0 (hD 0 (by decide))
        refine hI.val0 hL (by simp) rfl rfl ?_
        rw [show readsOf plan_11_6 1 = [(51, 0)] from rfl]
        refine give_call _ _ _ _ rfl rfl Try.func54 (by kernel_rfl) (by kernel_rfl) ?_
        refine Calls.mono (calls_eq (enc_on hon w) (args' := #[v 0]) (by rw [h0])) ?_
        rintro e w' ⟨rfl, hx⟩
        exact ⟨_, rfl, rfl, hx⟩
      · intro L v w hL hD hC hI
        refine ⟨fun _ => ?_, fun hw => by cases hw⟩
        have h1 : (v 1) = .tuple #[.agg (bcells (encF (tf (V (rf))) (tf (V (rg))))), .nilIface] := hI.inv.val 1 (hD 1 (by decide))
        refine hI.val0 hL (by simp) rfl rfl ?_
        rw [show readsOf plan_11_6 2 = [(52, 1)] from rfl]
        exact ⟨h1, Ext.refl _⟩
      · intro L v w hL hD hC hI
        refine ⟨fun _ => ?_, fun hw => by cases hw⟩
        have h2 : (v 2) = .tuple #[.agg (bcells (encF (tf (V (rf))) (tf (V (rg))))), .nilIface] := hI.inv.val 2 (hD 2 (by decide))
        refine hI.val0 hL (by simp) rfl rfl ?_
        rw [show readsOf plan_11_6 3 = [(50, 2)] from rfl]
        exact give_ext _ _ _ rfl h2 _ rfl ⟨rfl, Ext.refl _⟩
      · intro L v w hL hD hC hI
        refine ⟨fun _ => ?_, fun hw => by cases hw⟩
        have h2 : (v 2) = .tuple #[.agg (bcells (encF (tf (V (rf))) (tf (V (rg))))), .nilIface] := hI.inv.val 2 (hD 2 (by decide))
        refine hI.val0 hL (by simp) rfl rfl ?_
        rw [show readsOf plan_11_6 4 = [(50, 2)] from rfl]
        exact give_ext _ _ _ rfl h2 _ rfl ⟨rfl, Ext.refl _⟩
      · intro L v w hL hD hC hI
        refine ⟨fun _ => ?_, fun hw => by cases hw⟩
        refine InvN.alloc_step hok hI hL ⟨some 5, 0, 22, some 6, fun cs => (Value.agg (List.toArray cs)) = .agg (bcells (fun _ => 0)), fun cs => (Value.agg (List.toArray cs)) = .agg (bcells (encF (tf (V (rf))) (tf (V (rg)))))⟩ (by simp) rfl (by simp) (by intro s hs; cases hs; exact not_yet hC hL (by decide)) rfl rfl ?_
        rw [show readsOf plan_11_6 5 = [] from rfl]
        go_simp
        first | exact ⟨rfl, pcL (fun _ => 0) (fun _ => 0), rfl, rfl⟩ | exact ⟨trivial, rfl, pcL (fun _ => 0) (fun _ => 0), rfl, rfl⟩ | exact ⟨rfl, (bcells fun _ => 0).toList, by rw [Array.toArray_toList], by rw [Array.toArray_toList]⟩
      · intro L v w hL hD hC hI
        refine ⟨fun _ => ?_, fun hw => by cases hw⟩
        have h3 : (v 3) = .agg (bcells (encF (tf (V (rf))) (tf (V (rg))))) := hI.inv.val 3 (hD 3 (by decide))
        refine InvN.store_step hok hI hL ⟨some 5, 0, 22, some 6, fun cs => (Value.agg (List.toArray cs)) = .agg (bcells (fun _ => 0)), fun cs => (Value.agg (List.toArray cs)) = .agg (bcells (encF (tf (V (rf))) (tf (V (rg)))))⟩ (by simp) rfl (by simp) (by intro k hk; cases hk; exact hD 5 (by decide)) rfl rfl (fun cs h => by rw [bL_of h]; exact noI_b _) ?_
        intro n cs hb hR hold
        change v 5 = .pointer (some ⟨n, 0, none⟩) at hb
        rw [show readsOf plan_11_6 6 = [(53, 3), (10, 5)] from rfl]
        exact st_B hR (by rw [bL_of hold]; simp) _ _ rfl hb h3 fun w' cs' hr he hk => ⟨trivial, hk, cs', hr, he⟩
      · intro L v w hL hD hC hI
        refine ⟨fun _ => ?_, fun hw => by cases hw⟩
        have h4 : (v 4) = .nilIface := hI.inv.val 4 (hD 4 (by decide))
        refine hI.val0 hL (by simp) rfl rfl ?_
        rw [show readsOf plan_11_6 7 = [(54, 4)] from rfl]
        exact ⟨h4, Ext.refl _⟩
      intro L v6 W6 hL hI
      obtain ⟨c, cs, hb_c, lo_c, hr, hn, ho⟩ := hI.inv.row_made ⟨some 5, 0, 22, some 6, fun cs => (Value.agg (List.toArray cs)) = .agg (bcells (fun _ => 0)), fun cs => (Value.agg (List.toArray cs)) = .agg (bcells (encF (tf (V (rf))) (tf (V (rg)))))⟩ (by simp) 5 rfl (hL 5 (by decide))
      have R_c : RV W6 c 22 (fun u => u = .agg (bcells (encF (tf (V (rf))) (tf (V (rg)))))) := ⟨cs, hr, hn 6 rfl (hL 6 (by decide))⟩
      clear hr hn ho
      replace R_raw := R_raw.keep hI.inv.keep (by simp)
      have hx' : Ext w W6 := hx.trans hI.inv.keep.to_ext
      have hs_11_6 : (v6 7) = .nilIface := hI.inv.val 7 (hL 7 (by decide))
      clear hx hI hL hok L
      have hx := hx'
      clear hx'
      simp only [putP, Act.put, List.setIfInBounds_toArray, List.set_cons_zero, List.set_cons_succ, hb_c, hs_11_6]
      go_upto_region 7 with fail
      have hok : TrsOk [] W6.heap.size ([] : List Trk) := ⟨by simp, by simp, by simp, by simp⟩
      refine wp_region_text (InvN [] (fun j u => match j with | 0 => u = .agg (pc (rf) (rg)) | 1 => u = .bool (true) | 2 => u = .bool (true) | _ => True) (fun _ => none) (fun _ => none) [] W6) plan_11_7 [(55, 0), (56, 1), (12, 2)] 81 rfl (by kernel_rfl) (InvN.of (Inv.start0 hok (by simp))) ⟨?_, ?_, ?_, trivial⟩ ?_
      · intro L v w hL hD hC hI
        refine ⟨fun _ => ?_, fun hw => by cases hw⟩
        refine hI.val0 hL (by simp) rfl rfl ?_
        rw [show readsOf plan_11_7 0 = [] from rfl]
        exact ld_P (R_raw.keep hI.inv.keep (by simp)) _ rfl rfl fun u hu => ⟨hu, Ext.refl _⟩
      · intro L v w hL hD hC hI
        refine ⟨fun _ => ?_, fun hw => by cases hw⟩
        have h0 : (v 0) = .agg (pc (rf) (rg)) := hI.inv.val 0 (hD 0 (by decide))
        refine hI.val0 hL (by simp) rfl rfl ?_
        rw [show readsOf plan_11_7 1 = [(55, 0)] from rfl]
        refine give_call _ _ _ _ rfl rfl Try.func31 (by kernel_rfl) (by kernel_rfl) ?_
        refine Calls.mono (calls_eq (ris_t hon w) (args' := #[v 0]) (by rw [h0])) ?_
        rintro e w' ⟨rfl, hx⟩
        exact ⟨_, rfl, rfl, hx⟩
      · intro L v w hL hD hC hI
        refine ⟨fun _ => ?_, fun hw => by cases hw⟩
        have h1 : (v 1) = .bool (true) := hI.inv.val 1 (hD 1 (by decide))
        refine hI.val0 hL (by simp) rfl rfl ?_
        rw [show readsOf plan_11_7 2 = [(56, 1)] from rfl]
        exact ⟨h1, Ext.refl _⟩
      intro L v7 W7 hL hI
      replace R_raw := R_raw.keep hI.inv.keep (by simp)
      replace R_c := R_c.keep hI.inv.keep (by simp)
      have hx' : Ext w W7 := hx.trans hI.inv.keep.to_ext
      have hs_12_7 : (v7 2) = .bool (true) := hI.inv.val 2 (hL 2 (by decide))
      clear hx hI hL hok L
      have hx := hx'
      clear hx'
      simp only [putP, Act.put, List.setIfInBounds_toArray, List.set_cons_zero, List.set_cons_succ, hs_12_7]
      go_upto_region 8 with fail
      have hok : TrsOk [] W7.heap.size ([] : List Trk) := ⟨by simp, by simp, by simp, by simp⟩
      refine wp_region_text (InvN [] (fun j u => match j with | 0 => u = .bool (true) | 1 => u = .bool (false) | _ => True) (fun _ => none) (fun _ => none) [] W7) plan_11_8 [(57, 0), (58, 1)] 81 rfl (by kernel_rfl) (InvN.of (Inv.start0 hok (by simp))) ⟨?_, ?_, trivial⟩ ?_
      · intro L v w hL hD hC hI
        refine ⟨fun _ => ?_, fun hw => by cases hw⟩
        refine hI.val0 hL (by simp) rfl rfl ?_
        rw [show readsOf plan_11_8 0 = [] from rfl]
        first | exact ⟨rfl, Ext.refl _⟩ | (go_simp; exact ⟨rfl, Ext.refl _⟩)
      · intro L v w hL hD hC hI
        refine ⟨fun _ => ?_, fun hw => by cases hw⟩
        have h0 : (v 0) = .bool (true) := hI.inv.val 0 (hD 0 (by decide))
        refine hI.val0 hL (by simp) rfl rfl ?_
        rw [show readsOf plan_11_8 1 = [(57, 0)] from rfl]
        exact give_not _ _ rfl h0 ⟨rfl, Ext.refl _⟩
      intro L v8 W8 hL hI
      replace R_raw := R_raw.keep hI.inv.keep (by simp)
      replace R_c := R_c.keep hI.inv.keep (by simp)
      have hx' : Ext w W8 := hx.trans hI.inv.keep.to_ext
      have hs_57_8 : (v8 0) = .bool (true) := hI.inv.val 0 (hL 0 (by decide))
      have hs_58_8 : (v8 1) = .bool (false) := hI.inv.val 1 (hL 1 (by decide))
      clear hx hI hL hok L
      have hx := hx'
      clear hx'
      simp only [putP, Act.put, List.setIfInBounds_toArray, List.set_cons_zero, List.set_cons_succ, hs_57_8, hs_58_8]
      go_upto_region 10 with fail
      have hok : TrsOk [] W8.heap.size ([] : List Trk) := ⟨by simp, by simp, by simp, by simp⟩
      refine wp_region_plan (InvN [] (fun j u => match j with | 0 => u = .bool (true) | 1 => u = .bool (true) | 2 => u = .nilIface | 3 => u = .bool (true) | 4 => u = .bool (true) | 5 => u = .bool (true) | 6 => u = .agg (bcells (encF (tf (V (rf))) (tf (V (rg))))) | 7 => u = .agg (pc (rf) (rg)) | 8 => u = .agg (bcells (encF (tf (V (rf))) (tf (V (rg))))) | 9 => u = .bool (true) | 10 => u = .bool (true) | 11 => u = .bool (true) | _ => True) (fun _ => none) (fun _ => none) [] W8) plan_11_10 [(70, 0), (71, 1), (72, 2), (73, 3), (74, 4), (75, 5), (76, 6), (77, 7), (78, 8), (79, 9), (80, 10), (4, 11)] 81 (by kernel_rfl) rfl (by kernel_rfl) (InvN.of (Inv.start hok (by simp))) ⟨?_, ?_, ?_, ?_, ?_, ?_, ?_, ?_, ?_, ?_, ?_, ?_, trivial⟩ ?_
      · intro L v w hL hD hC hI
        refine ⟨fun _ => ?_, fun hw => by cases hw⟩
        refine hI.val0 hL (by simp) rfl rfl ?_
        rw [show readsOf plan_11_10 0 = [] from rfl]
        first | exact ⟨rfl, Ext.refl _⟩ | (go_simp; exact ⟨rfl, Ext.refl _⟩)
      · intro L v w hL hD hC hI
        refine ⟨fun _ => ?_, fun hw => by cases hw⟩
        have h0 : (v 0) = .bool (true) := hI.inv.val 0 (hD 0 (by decide))
        refine hI.val0 hL (by simp) rfl rfl ?_
        rw [show readsOf plan_11_10 1 = [(70, 0)] from rfl]
        exact ⟨h0, Ext.refl _⟩
      · intro L v w hL hD hC hI
        have hg : v 1 = .bool true := hI.inv.val 1 (hD 1 (by decide))
        refine ⟨fun _ => ?_, fun hw => by simp [wantedV, hg] at hw⟩
        have h1 : (v 1) = .bool (true) := hI.inv.val 1 (hD 1 (by decide))
        refine hI.val0 hL (by simp) rfl rfl ?_
        rw [show readsOf plan_11_10 2 = [(71, 1)] from rfl]
        first | exact ⟨rfl, Ext.refl _⟩ | (go_simp; exact ⟨rfl, Ext.refl _⟩)
      · intro L v w hL hD hC hI
        have hg : v 1 = .bool true := hI.inv.val 1 (hD 1 (by decide))
        refine ⟨fun _ => ?_, fun hw => by simp [wantedV, hg] at hw⟩
        have h1 : (v 1) = .bool (true) := hI.inv.val 1 (hD 1 (by decide))
        have h2 : (v 2) = .nilIface := hI.inv.val 2 (hD 2 (by decide))
        refine hI.val0 hL (by simp) rfl rfl ?_
        rw [show readsOf plan_11_10 3 = [(71, 1), (72, 2)] from rfl]
        exact give_nil_eq _ _ rfl h2 rfl ⟨rfl, Ext.refl _⟩
      · intro L v w hL hD hC hI
        refine ⟨fun _ => ?_, fun hw => by cases hw⟩
        have h1 : (v 1) = .bool (true) := hI.inv.val 1 (hD 1 (by decide))
        have h3 : (v 3) = .bool (true) := hI.inv.val 3 (hD 3 (by decide))
        refine hI.val0 hL (by simp) rfl rfl ?_
        rw [show readsOf plan_11_10 4 = [(71, 1), (73, 3)] from rfl]
        exact give_pick_t _ _ _ rfl h1 ⟨h3, Ext.refl _⟩
      · intro L v w hL hD hC hI
        refine ⟨fun _ => ?_, fun hw => by cases hw⟩
        have h4 : (v 4) = .bool (true) := hI.inv.val 4 (hD 4 (by decide))
        refine hI.val0 hL (by simp) rfl rfl ?_
        rw [show readsOf plan_11_10 5 = [(74, 4)] from rfl]
        exact ⟨h4, Ext.refl _⟩
      · intro L v w hL hD hC hI
        have hg : v 5 = .bool true := hI.inv.val 5 (hD 5 (by decide))
        refine ⟨fun _ => ?_, fun hw => by simp [wantedV, hg] at hw⟩
        have h5 : (v 5) = .bool (true) := hI.inv.val 5 (hD 5 (by decide))
        refine hI.val0 hL (by simp) rfl rfl ?_
        rw [show readsOf plan_11_10 6 = [(75, 5)] from rfl]
        exact ld_B (R_c.keep hI.inv.keep (by simp)) _ rfl rfl fun u hu => ⟨hu, Ext.refl _⟩
      · intro L v w hL hD hC hI
        have hg : v 5 = .bool true := hI.inv.val 5 (hD 5 (by decide))
        refine ⟨fun _ => ?_, fun hw => by simp [wantedV, hg] at hw⟩
        have h5 : (v 5) = .bool (true) := hI.inv.val 5 (hD 5 (by decide))
        refine hI.val0 hL (by simp) rfl rfl ?_
        rw [show readsOf plan_11_10 7 = [(75, 5)] from rfl]
        exact ld_P (R_raw.keep hI.inv.keep (by simp)) _ rfl rfl fun u hu => ⟨hu, Ext.refl _⟩
      · intro L v w hL hD hC hI
        have hg : v 5 = .bool true := hI.inv.val 5 (hD 5 (by decide))
        refine ⟨fun _ => ?_, fun hw => by simp [wantedV, hg] at hw⟩
        have h5 : (v 5) = .bool (true) := hI.inv.val 5 (hD 5 (by decide))
        have h7 : (v 7) = .agg (pc (rf) (rg)) := hI.inv.val 7 (hD 7 (by decide))
        refine hI.val0 hL (by simp) rfl rfl ?_
        rw [show readsOf plan_11_10 8 = [(75, 5), (77, 7)] from rfl]
        refine give_call _ _ _ _ rfl rfl Try.func55 (by kernel_rfl) (by kernel_rfl) ?_
        refine Calls.mono (calls_eq (renc rf rg w) (args' := #[v 7]) (by rw [h7])) ?_
        rintro e w' ⟨rfl, hx⟩
        exact ⟨_, rfl, rfl, hx⟩
      · intro L v w hL hD hC hI
        have hg : v 5 = .bool true := hI.inv.val 5 (hD 5 (by decide))
        refine ⟨fun _ => ?_, fun hw => by simp [wantedV, hg] at hw⟩
        have h5 : (v 5) = .bool (true) := hI.inv.val 5 (hD 5 (by decide))
        have h6 : (v 6) = .agg (bcells (encF (tf (V (rf))) (tf (V (rg))))) := hI.inv.val 6 (hD 6 (by decide))
        have h8 : (v 8) = .agg (bcells (encF (tf (V (rf))) (tf (V (rg))))) := hI.inv.val 8 (hD 8 (by decide))
        refine hI.val0 hL (by simp) rfl rfl ?_
        rw [show readsOf plan_11_10 9 = [(75, 5), (76, 6), (78, 8)] from rfl]
        simp only [putP, Act.put, List.setIfInBounds_toArray, List.set_cons_zero, List.set_cons_succ, h6, h8]
        go_simp
        exact ⟨by simp [beqb_self], Ext.refl _⟩
      · intro L v w hL hD hC hI
        refine ⟨fun _ => ?_, fun hw => by cases hw⟩
        have h5 : (v 5) = .bool (true) := hI.inv.val 5 (hD 5 (by decide))
        have h9 : (v 9) = .bool (true) := hI.inv.val 9 (hD 9 (by decide))
        refine hI.val0 hL (by simp) rfl rfl ?_
        rw [show readsOf plan_11_10 10 = [(75, 5), (79, 9)] from rfl]
        exact give_pick_t _ _ _ rfl h5 ⟨h9, Ext.refl _⟩
      · intro L v w hL hD hC hI
        refine ⟨fun _ => ?_, fun hw => by cases hw⟩
        have h10 : (v 10) = .bool (true) := hI.inv.val 10 (hD 10 (by decide))
        refine hI.val0 hL (by simp) rfl rfl ?_
        rw [show readsOf plan_11_10 11 = [(80, 10)] from rfl]
        exact ⟨h10, Ext.refl _⟩
      intro L v9 W9 hL hI
      replace R_raw := R_raw.keep hI.inv.keep (by simp)
      replace R_c := R_c.keep hI.inv.keep (by simp)
      have hx' : Ext w W9 := hx.trans hI.inv.keep.to_ext
      have hs_70_10 : (v9 0) = .bool (true) := hI.inv.val 0 (hL 0 (by decide))
      have hs_71_10 : (v9 1) = .bool (true) := hI.inv.val 1 (hL 1 (by decide))
      have hs_72_10 : (v9 2) = .nilIface := hI.inv.val 2 (hL 2 (by decide))
      have hs_75_10 : (v9 5) = .bool (true) := hI.inv.val 5 (hL 5 (by decide))
      have hs_4_10 : (v9 11) = .bool (true) := hI.inv.val 11 (hL 11 (by decide))
      clear hx hI hL hok L
      have hx := hx'
      clear hx'
      simp only [putP, Act.put, List.setIfInBounds_toArray, List.set_cons_zero, List.set_cons_succ, hs_70_10, hs_71_10, hs_72_10, hs_75_10, hs_4_10]
      go_wp2
      go_ret
      exact ⟨rfl, hx⟩
    · skip
      have hok : TrsOk [] W5.heap.size ([⟨some 5, 0, 22, some 6, fun cs => (Value.agg (List.toArray cs)) = .agg (bcells (fun _ => 0)), fun cs => (Value.agg (List.toArray cs)) = .agg (bcells (fun _ => 0))⟩] : List Trk) := ⟨by simp, by simp, by simp, by simp⟩
      refine wp_region_text (InvN [] (fun j u => match j with | 0 => u = .agg (pc (rf) (rg)) | 1 => u = .tuple #[.agg (bcells (fun _ => 0)), errPoint] | 2 => u = .tuple #[.agg (bcells (fun _ => 0)), errPoint] | 3 => u = .agg (bcells (fun _ => 0)) | 4 => u = errPoint | 7 => u = errPoint | _ => True) (fun _ => none) (fun _ => none) [⟨some 5, 0, 22, some 6, fun cs => (Value.agg (List.toArray cs)) = .agg (bcells (fun _ => 0)), fun cs => (Value.agg (List.toArray cs)) = .agg (bcells (fun _ => 0))⟩] W5) plan_11_6 [(51, 0), (52, 1), (50, 2), (53, 3), (54, 4), (10, 5), (11, 7)] 81 rfl (by kernel_rfl) (InvN.of (Inv.start0 hok (by simp))) ⟨?_, ?_, ?_, ?_, ?_, ?_, ?_, ?_, trivial⟩ ?_
      · intro L v w hL hD hC hI
        refine ⟨fun _ => ?_, fun hw => by cases hw⟩
        refine hI.val0 hL (by simp) rfl rfl ?_
        rw [show readsOf plan_11_6 0 = [] from rfl]
        exact ld_P (R_raw.keep hI.inv.keep (by simp)) _ rfl rfl fun u hu => ⟨hu, Ext.refl _⟩
      · intro L v w hL hD hC hI
        refine ⟨fun _ => ?_, fun hw => by cases hw⟩
        have h0 : (v 0) = .agg (pc (rf) (rg)) := hI.inv.val 0 (hD 0 (by decide))
        refine hI.val0 hL (by simp) rfl rfl ?_
        rw [show readsOf plan_11_6 1 = [(51, 0)] from rfl]
        refine give_call _ _ _ _ rfl rfl Try.func54 (by kernel_rfl) (by kernel_rfl) ?_
        refine Calls.mono (calls_eq (enc_off hon w) (args' := #[v 0]) (by rw [h0])) ?_
        rintro e w' ⟨rfl, hx⟩
        exact ⟨_, rfl, rfl, hx⟩
      · intro L v w hL hD hC hI
        refine ⟨fun _ => ?_, fun hw => by cases hw⟩
        have h1 : (v 1) = .tuple #[.agg (bcells (fun _ => 0)), errPoint] := hI.inv.val 1 (hD 1 (by decide))
        refine hI.val0 hL (by simp) rfl rfl ?_
        rw [show readsOf plan_11_6 2 = [(52, 1)] from rfl]
        exact ⟨h1, Ext.refl _⟩
      · intro L v w hL hD hC hI
        refine ⟨fun _ => ?_, fun hw => by cases hw⟩
        have h2 : (v 2) = .tuple #[.agg (bcells (fun _ => 0)), errPoint] := hI.inv.val 2 (hD 2 (by decide))
        refine hI.val0 hL (by simp) rfl rfl ?_
        rw [show readsOf plan_11_6 3 = [(50, 2)] from rfl]
        exact give_ext _ _ _ rfl h2 _ rfl ⟨rfl, Ext.refl _⟩
      · intro L v w hL hD hC hI
        refine ⟨fun _ => ?_, fun hw => by cases hw⟩
        have h2 : (v 2) = .tuple #[.agg (bcells (fun _ => 0)), errPoint] := hI.inv.val 2 (hD 2 (by decide))
        refine hI.val0 hL (by simp) rfl rfl ?_
        rw [show readsOf plan_11_6 4 = [(50, 2)] from rfl]
        exact give_ext _ _ _ rfl h2 _ rfl ⟨rfl, Ext.refl _⟩
      · intro L v w hL hD hC hI
        refine ⟨fun _ => ?_, fun hw => by cases hw⟩
        refine InvN.alloc_step hok hI hL ⟨some 5, 0, 22, some 6, fun cs => (Value.agg (List.toArray cs)) = .agg (bcells (fun _ => 0)), fun cs => (Value.agg (List.toArray cs)) = .agg (bcells (fun _ => 0))⟩ (by simp) rfl (by simp) (by intro s hs; cases hs; exact not_yet hC hL (by decide)) rfl rfl ?_
        rw [show readsOf plan_11_6 5 = [] from rfl]
        go_simp
        first | exact ⟨rfl, pcL (fun _ => 0) (fun _ => 0), rfl, rfl⟩ | exact ⟨trivial, rfl, pcL (fun _ => 0) (fun _ => 0), rfl, rfl⟩ | exact ⟨rfl, (bcells fun _ => 0).toList, by rw [Array.toArray_toList], by rw [Array.toArray_toList]⟩
      · intro L v w hL hD hC hI
        refine ⟨fun _ => ?_, fun hw => by cases hw⟩
        have h3 : (v 3) = .agg (bcells (fun _ => 0)) := hI.inv.val 3 (hD 3 (by decide))
        refine InvN.store_step hok hI hL ⟨some 5, 0, 22, some 6, fun cs => (Value.agg (List.toArray cs)) = .agg (bcells (fun _ => 0)), fun cs => (Value.agg (List.toArray cs)) = .agg (bcells (fun _ => 0))⟩ (by simp) rfl (by simp) (by intro k hk; cases hk; exact hD 5 (by decide)) rfl rfl (fun cs h => by rw [bL_of h]; exact noI_b _) ?_
        intro n cs hb hR hold
        change v 5 = .pointer (some ⟨n, 0, none⟩) at hb
        rw [show readsOf plan_11_6 6 = [(53, 3), (10, 5)] from rfl]
        exact st_B hR (by rw [bL_of hold]; simp) _ _ rfl hb h3 fun w' cs' hr he hk => ⟨trivial, hk, cs', hr, he⟩
      · intro L v w hL hD hC hI
        refine ⟨fun _ => ?_, fun hw => by cases hw⟩
        have h4 : (v 4) = errPoint := hI.inv.val 4 (hD 4 (by decide))
        refine hI.val0 hL (by simp) rfl rfl ?_
        rw [show readsOf plan_11_6 7 = [(54, 4)] from rfl]
        exact ⟨h4, Ext.refl _⟩
      intro L v6 W6 hL hI
      obtain ⟨c, cs, hb_c, lo_c, hr, hn, ho⟩ := hI.inv.row_made ⟨some 5, 0, 22, some 6, fun cs => (Value.agg (List.toArray cs)) = .agg (bcells (fun _ => 0)), fun cs => (Value.agg (List.toArray cs)) = .agg (bcells (fun _ => 0))⟩ (by simp) 5 rfl (hL 5 (by decide))
      have R_c : RV W6 c 22 (fun u => u = .agg (bcells (fun _ => 0))) := ⟨cs, hr, hn 6 rfl (hL 6 (by decide))⟩
      clear hr hn ho
      replace R_raw := R_raw.keep hI.inv.keep (by simp)
      have hx' : Ext w W6 := hx.trans hI.inv.keep.to_ext
      have hs_11_6 : (v6 7) = errPoint := hI.inv.val 7 (hL 7 (by decide))
      clear hx hI hL hok L
      have hx := hx'
      clear hx'
      simp only [putP, Act.put, List.setIfInBounds_toArray, List.set_cons_zero, List.set_cons_succ, hb_c, hs_11_6]
      go_upto_region 7 with fail
      have hok : TrsOk [] W6.heap.size ([] : List Trk) := ⟨by simp, by simp, by simp, by simp⟩
      refine wp_region_text (InvN [] (fun j u => match j with | 0 => u = .agg (pc (rf) (rg)) | 1 => u = .bool (false) | 2 => u = .bool (false) | _ => True) (fun _ => none) (fun _ => none) [] W6) plan_11_7 [(55, 0), (56, 1), (12, 2)] 81 rfl (by kernel_rfl) (InvN.of (Inv.start0 hok (by simp))) ⟨?_, ?_, ?_, trivial⟩ ?_
      · intro L v w hL hD hC hI
        refine ⟨fun _ => ?_, fun hw => by cases hw⟩
        refine hI.val0 hL (by simp) rfl rfl ?_
        rw [show readsOf plan_11_7 0 = [] from rfl]
        exact ld_P (R_raw.keep hI.inv.keep (by simp)) _ rfl rfl fun u hu => ⟨hu, Ext.refl _⟩
      · intro L v w hL hD hC hI
        refine ⟨fun _ => ?_, fun hw => by cases hw⟩
        have h0 : (v 0) = .agg (pc (rf) (rg)) := hI.inv.val 0 (hD 0 (by decide))
        refine hI.val0 hL (by simp) rfl rfl ?_
        rw [show readsOf plan_11_7 1 = [(55, 0)] from rfl]
        refine give_call _ _ _ _ rfl rfl Try.func31 (by kernel_rfl) (by kernel_rfl) ?_
        refine Calls.mono (calls_eq (ris_f hon w) (args' := #[v 0]) (by rw [h0])) ?_
        rintro e w' ⟨rfl, hx⟩
        exact ⟨_, rfl, rfl, hx⟩
      · intro L v w hL hD hC hI
        refine ⟨fun _ => ?_, fun hw => by cases hw⟩
        have h1 : (v 1) = .bool (false) := hI.inv.val 1 (hD 1 (by decide))
        refine hI.val0 hL (by simp) rfl rfl ?_
        rw [show readsOf plan_11_7 2 = [(56, 1)] from rfl]
        exact ⟨h1, Ext.refl _⟩
      intro L v7 W7 hL hI
      replace R_raw := R_raw.keep hI.inv.keep (by simp)
      replace R_c := R_c.keep hI.inv.keep (by simp)
      have hx' : Ext w W7 := hx.trans hI.inv.keep.to_ext
      have hs_12_7 : (v7 2) = .bool (false) := hI.inv.val 2 (hL 2 (by decide))
      clear hx hI hL hok L
      have hx := hx'
      clear hx'
      simp only [putP, Act.put, List.setIfInBounds_toArray, List.set_cons_zero, List.set_cons_succ, hs_12_7]
      go_upto_region 8 with fail
      have hok : TrsOk [] W7.heap.size ([] : List Trk) := ⟨by simp, by simp, by simp, by simp⟩
      refine wp_region_text (InvN [] (fun j u => match j with | 0 => u = .bool (false) | 1 => u = .bool (true) | _ => True) (fun _ => none) (fun _ => none) [] W7) plan_11_8 [(57, 0), (58, 1)] 81 rfl (by kernel_rfl) (InvN.of (Inv.start0 hok (by simp))) ⟨?_, ?_, trivial⟩ ?_
      · intro L v w hL hD hC hI
        refine ⟨fun _ => ?_, fun hw => by cases hw⟩
        refine hI.val0 hL (by simp) rfl rfl ?_
        rw [show readsOf plan_11_8 0 = [] from rfl]
        first | exact ⟨rfl, Ext.refl _⟩ | (go_simp; exact ⟨rfl, Ext.refl _⟩)
      · intro L v w hL hD hC hI
        refine ⟨fun _ => ?_, fun hw => by cases hw⟩
        have h0 : (v 0) = .bool (false) := hI.inv.val 0 (hD 0 (by decide))
        refine hI.val0 hL (by simp) rfl rfl ?_
        rw [show readsOf plan_11_8 1 = [(57, 0)] from rfl]
        exact give_not _ _ rfl h0 ⟨rfl, Ext.refl _⟩
      intro L v8 W8 hL hI
      replace R_raw := R_raw.keep hI.inv.keep (by simp)
      replace R_c := R_c.keep hI.inv.keep (by simp)
      have hx' : Ext w W8 := hx.trans hI.inv.keep.to_ext
      have hs_57_8 : (v8 0) = .bool (false) := hI.inv.val 0 (hL 0 (by decide))
      have hs_58_8 : (v8 1) = .bool (true) := hI.inv.val 1 (hL 1 (by decide))
      clear hx hI hL hok L
      have hx := hx'
      clear hx'
      simp only [putP, Act.put, List.setIfInBounds_toArray, List.set_cons_zero, List.set_cons_succ, hs_57_8, hs_58_8]
      go_upto_region 9 with fail
      have hok : TrsOk [] W8.heap.size ([] : List Trk) := ⟨by simp, by simp, by simp, by simp⟩
      refine wp_region_plan (InvN [] (fun j u => match j with | 0 => u = .bool (true) | 1 => u = .bool (true) | 2 => u = errPoint | 3 => u = .iface 30 (.int .i64 29) | 4 => u = .bool (true) | 5 => u = .bool (true) | 6 => u = .bool (true) | 7 => u = .agg (bcells (fun _ => 0)) | 8 => u = .agg (bcells (fun _ => 0)) | 9 => u = .bool (true) | 10 => u = .bool (true) | 11 => u = .bool (true) | _ => True) (fun _ => none) (fun _ => none) [] W8) plan_11_9 [(59, 0), (60, 1), (61, 2), (62, 3), (63, 4), (64, 5), (65, 6), (66, 7), (67, 8), (68, 9), (69, 10), (4, 11)] 81 (by kernel_rfl) rfl (by kernel_rfl) (InvN.of (Inv.start hok (by simp))) ⟨?_, ?_, ?_, ?_, ?_, ?_, ?_, ?_, ?_, ?_, ?_, ?_, trivial⟩ ?_
      · intro L v w hL hD hC hI
        refine ⟨fun _ => ?_, fun hw => by cases hw⟩
        refine hI.val0 hL (by simp) rfl rfl ?_
        rw [show readsOf plan_11_9 0 = [] from rfl]
        first | exact ⟨rfl, Ext.refl _⟩ | (go_simp; exact ⟨rfl, Ext.refl _⟩)
      · intro L v w hL hD hC hI
        refine ⟨fun _ => ?_, fun hw => by cases hw⟩
        have h0 : (v 0) = .bool (true) := hI.inv.val 0 (hD 0 (by decide))
        refine hI.val0 hL (by simp) rfl rfl ?_
        rw [show readsOf plan_11_9 1 = [(59, 0)] from rfl]
        exact ⟨h0, Ext.refl _⟩
      · intro L v w hL hD hC hI
        have hg : v 1 = .bool true := hI.inv.val 1 (hD 1 (by decide))
        refine ⟨fun _ => ?_, fun hw => by simp [wantedV, hg] at hw⟩
        have h1 : (v 1) = .bool (true) := hI.inv.val 1 (hD 1 (by decide))
        refine hI.val0 hL (by simp) rfl rfl ?_
        rw [show readsOf plan_11_9 2 = [(60, 1)] from rfl]
        first | exact ⟨rfl, Ext.refl _⟩ | (go_simp; exact ⟨rfl, Ext.refl _⟩)
      · intro L v w hL hD hC hI
        have hg : v 1 = .bool true := hI.inv.val 1 (hD 1 (by decide))
        refine ⟨fun _ => ?_, fun hw => by simp [wantedV, hg] at hw⟩
        have h1 : (v 1) = .bool (true) := hI.inv.val 1 (hD 1 (by decide))
        refine hI.val0 hL (by simp) rfl rfl ?_
        rw [show readsOf plan_11_9 3 = [(60, 1)] from rfl]
        go_simp
        exact ⟨rfl, Ext.refl _⟩
      · intro L v w hL hD hC hI
        have hg : v 1 = .bool true := hI.inv.val 1 (hD 1 (by decide))
        refine ⟨fun _ => ?_, fun hw => by simp [wantedV, hg] at hw⟩
        have h1 : (v 1) = .bool (true) := hI.inv.val 1 (hD 1 (by decide))
        have h2 : (v 2) = errPoint := hI.inv.val 2 (hD 2 (by decide))
        have h3 : (v 3) = .iface 30 (.int .i64 29) := hI.inv.val 3 (hD 3 (by decide))
        refine hI.val0 hL (by simp) rfl rfl ?_
        rw [show readsOf plan_11_9 4 = [(60, 1), (61, 2), (62, 3)] from rfl]
        exact give_errEq _ _ _ rfl h2 h3 ⟨rfl, Ext.refl _⟩
      · intro L v w hL hD hC hI
        refine ⟨fun _ => ?_, fun hw => by cases hw⟩
        have h1 : (v 1) = .bool (true) := hI.inv.val 1 (hD 1 (by decide))
        have h4 : (v 4) = .bool (true) := hI.inv.val 4 (hD 4 (by decide))
        refine hI.val0 hL (by simp) rfl rfl ?_
        rw [show readsOf plan_11_9 5 = [(60, 1), (63, 4)] from rfl]
        exact give_pick_t _ _ _ rfl h1 ⟨h4, Ext.refl _⟩
      · intro L v w hL hD hC hI
        refine ⟨fun _ => ?_, fun hw => by cases hw⟩
        have h5 : (v 5) = .bool (true) := hI.inv.val 5 (hD 5 (by decide))
        refine hI.val0 hL (by simp) rfl rfl ?_
        rw [show readsOf plan_11_9 6 = [(64, 5)] from rfl]
        exact ⟨h5, Ext.refl _⟩
      · intro L v w hL hD hC hI
        have hg : v 6 = .bool true := hI.inv.val 6 (hD 6 (by decide))
        refine ⟨fun _ => ?_, fun hw => by simp [wantedV, hg] at hw⟩
        have h6 : (v 6) = .bool (true) := hI.inv.val 6 (hD 6 (by decide))
        refine hI.val0 hL (by simp) rfl rfl ?_
        rw [show readsOf plan_11_9 7 = [(65, 6)] from rfl]
        exact ld_B (R_c.keep hI.inv.keep (by simp)) _ rfl rfl fun u hu => ⟨hu, Ext.refl _⟩
      · intro L v w hL hD hC hI
        have hg : v 6 = .bool true := hI.inv.val 6 (hD 6 (by decide))
        refine ⟨fun _ => ?_, fun hw => by simp [wantedV, hg] at hw⟩
        have h6 : (v 6) = .bool (true) := hI.inv.val 6 (hD 6 (by decide))
        refine hI.val0 hL (by simp) rfl rfl ?_
        rw [show readsOf plan_11_9 8 = [(65, 6)] from rfl]
        refine give_call _ _ _ _ rfl rfl Try.func40 (by kernel_rfl) (by kernel_rfl) ?_
        refine Calls.mono (by have := sm7_0 w; rw [nb_zero] at this; exact this) ?_
        rintro e w' ⟨rfl, hx⟩
        exact ⟨_, rfl, rfl, hx⟩
      · intro L v w hL hD hC hI
        have hg : v 6 = .bool true := hI.inv.val 6 (hD 6 (by decide))
        refine ⟨fun _ => ?_, fun hw => by simp [wantedV, hg] at hw⟩
        have h6 : (v 6) = .bool (true) := hI.inv.val 6 (hD 6 (by decide))
        have h7 : (v 7) = .agg (bcells (fun _ => 0)) := hI.inv.val 7 (hD 7 (by decide))
        have h8 : (v 8) = .agg (bcells (fun _ => 0)) := hI.inv.val 8 (hD 8 (by decide))
        refine hI.val0 hL (by simp) rfl rfl ?_
        rw [show readsOf plan_11_9 9 = [(65, 6), (66, 7), (67, 8)] from rfl]
        simp only [putP, Act.put, List.setIfInBounds_toArray, List.set_cons_zero, List.set_cons_succ, h7, h8]
        go_simp
        exact ⟨by simp [beqb_self], Ext.refl _⟩
      · intro L v w hL hD hC hI
        refine ⟨fun _ => ?_, fun hw => by cases hw⟩
        have h6 : (v 6) = .bool (true) := hI.inv.val 6 (hD 6 (by decide))
        have h9 : (v 9) = .bool (true) := hI.inv.val 9 (hD 9 (by decide))
        refine hI.val0 hL (by simp) rfl rfl ?_
        rw [show readsOf plan_11_9 10 = [(65, 6), (68, 9)] from rfl]
        exact give_pick_t _ _ _ rfl h6 ⟨h9, Ext.refl _⟩
      · intro L v w hL hD hC hI
        refine ⟨fun _ => ?_, fun hw => by cases hw⟩
        have h10 : (v 10) = .bool (true) := hI.inv.val 10 (hD 10 (by decide))
        refine hI.val0 hL (by simp) rfl rfl ?_
        rw [show readsOf plan_11_9 11 = [(69, 10)] from rfl]
        exact ⟨h10, Ext.refl _⟩
      intro L v9 W9 hL hI
      replace R_raw := R_raw.keep hI.inv.keep (by simp)
      replace R_c := R_c.keep hI.inv.keep (by simp)
      have hx' : Ext w W9 := hx.trans hI.inv.keep.to_ext
      have hs_59_9 : (v9 0) = .bool (true) := hI.inv.val 0 (hL 0 (by decide))
      have hs_60_9 : (v9 1) = .bool (true) := hI.inv.val 1 (hL 1 (by decide))
      have hs_61_9 : (v9 2) = errPoint := hI.inv.val 2 (hL 2 (by decide))
      have hs_65_9 : (v9 6) = .bool (true) := hI.inv.val 6 (hL 6 (by decide))
      have hs_4_9 : (v9 11) = .bool (true) := hI.inv.val 11 (hL 11 (by decide))
      clear hx hI hL hok L
      have hx := hx'
      clear hx'
      simp only [putP, Act.put, List.setIfInBounds_toArray, List.set_cons_zero, List.set_cons_succ, hs_59_9, hs_60_9, hs_61_9, hs_65_9, hs_4_9]
      go_wp2
      go_ret
      exact ⟨rfl, hx⟩
  · skip
    rw [decV_some] at hc
    rw [rdV_some] at hr
    go_upto_region 2 with fail
    have hok : TrsOk [] W2.heap.size ([⟨some 5, 0, 43, some 6, fun cs => (Value.agg (List.toArray cs)) = .agg (pc (fun _ => 0) (fun _ => 0)), fun cs => (Value.agg (List.toArray cs)) = .agg (pc (fb x) (fb y))⟩] : List Trk) := ⟨by simp, by simp, by simp, by simp⟩
    refine wp_region_text (InvN [] (fun j u => match j with | 0 => u = .agg (bcells (f1)) | 1 => u = .tuple #[.agg (pc (fb x) (fb y)), .nilIface] | 2 => u = .tuple #[.agg (pc (fb x) (fb y)), .nilIface] | 3 => u = .agg (pc (fb x) (fb y)) | 4 => u = .nilIface | 7 => u = .nilIface | _ => True) (fun _ => none) (fun _ => none) [⟨some 5, 0, 43, some 6, fun cs => (Value.agg (List.toArray cs)) = .agg (pc (fun _ => 0) (fun _ => 0)), fun cs => (Value.agg (List.toArray cs)) = .agg (pc (fb x) (fb y))⟩] W2) plan_11_2 [(15, 0), (16, 1), (14, 2), (17, 3), (18, 4), (6, 5), (7, 7)] 81 rfl (by kernel_rfl) (InvN.of (Inv.start0 hok (by simp))) ⟨?_, ?_, ?_, ?_, ?_, ?_, ?_, ?_, trivial⟩ ?_
    · intro L v w hL hD hC hI
      refine ⟨fun _ => ?_, fun hw => by cases hw⟩
      refine hI.val0 hL (by simp) rfl rfl ?_
      rw [show readsOf plan_11_2 0 = [] from rfl]
      exact ld_B (R_k1.keep hI.inv.keep (by simp)) _ rfl rfl fun u hu => ⟨hu, Ext.refl _⟩
    · intro L v w hL hD hC hI
      refine ⟨fun _ => ?_, fun hw => by cases hw⟩
      have h0 : (v 0) = .agg (bcells (f1)) := hI.inv.val 0 (hD 0 (by decide))
      refine hI.val0 hL (by simp) rfl rfl ?_
      rw [show readsOf plan_11_2 1 = [(15, 0)] from rfl]
      refine give_call _ _ _ _ rfl rfl Try.func52 (by kernel_rfl) (by kernel_rfl) ?_
      refine Calls.mono (calls_eq (hc w) (args' := #[v 0]) (by rw [h0])) ?_
      rintro e w' ⟨rfl, hx⟩
      exact ⟨_, rfl, rfl, hx⟩
    · intro L v w hL hD hC hI
      refine ⟨fun _ => ?_, fun hw => by cases hw⟩
      have h1 : (v 1) = .tuple #[.agg (pc (fb x) (fb y)), .nilIface] := hI.inv.val 1 (hD 1 (by decide))
      refine hI.val0 hL (by simp) rfl rfl ?_
      rw [show readsOf plan_11_2 2 = [(16, 1)] from rfl]
      exact ⟨h1, Ext.refl _⟩
    · intro L v w hL hD hC hI
      refine ⟨fun _ => ?_, fun hw => by cases hw⟩
      have h2 : (v 2) = .tuple #[.agg (pc (fb x) (fb y)), .nilIface] := hI.inv.val 2 (hD 2 (by decide))
      refine hI.val0 hL (by simp) rfl rfl ?_
      rw [show readsOf plan_11_2 3 = [(14, 2)] from rfl]
      exact give_ext _ _ _ rfl h2 _ rfl ⟨rfl, Ext.refl _⟩
    · intro L v w hL hD hC hI
      refine ⟨fun _ => ?_, fun hw => by cases hw⟩
      have h2 : (v 2) = .tuple #[.agg (pc (fb x) (fb y)), .nilIface] := hI.inv.val 2 (hD 2 (by decide))
      refine hI.val0 hL (by simp) rfl rfl ?_
      rw [show readsOf plan_11_2 4 = [(14, 2)] from rfl]
      exact give_ext _ _ _ rfl h2 _ rfl ⟨rfl, Ext.refl _⟩
    · intro L v w hL hD hC hI
      refine ⟨fun _ => ?_, fun hw => by cases hw⟩
      refine InvN.alloc_step hok hI hL ⟨some 5, 0, 43, some 6, fun cs => (Value.agg (List.toArray cs)) = .agg (pc (fun _ => 0) (fun _ => 0)), fun cs => (Value.agg (List.toArray cs)) = .agg (pc (fb x) (fb y))⟩ (by simp) rfl (by simp) (by intro s hs; cases hs; exact not_yet hC hL (by decide)) rfl rfl ?_
      rw [show readsOf plan_11_2 5 = [] from rfl]
      go_simp
      first | exact ⟨rfl, pcL (fun _ => 0) (fun _ => 0), rfl, rfl⟩ | exact ⟨trivial, rfl, pcL (fun _ => 0) (fun _ => 0), rfl, rfl⟩ | exact ⟨rfl, (bcells fun _ => 0).toList, by rw [Array.toArray_toList], by rw [Array.toArray_toList]⟩
    · intro L v w hL hD hC hI
      refine ⟨fun _ => ?_, fun hw => by cases hw⟩
      have h3 : (v 3) = .agg (pc (fb x) (fb y)) := hI.inv.val 3 (hD 3 (by decide))
      refine InvN.store_step hok hI hL ⟨some 5, 0, 43, some 6, fun cs => (Value.agg (List.toArray cs)) = .agg (pc (fun _ => 0) (fun _ => 0)), fun cs => (Value.agg (List.toArray cs)) = .agg (pc (fb x) (fb y))⟩ (by simp) rfl (by simp) (by intro k hk; cases hk; exact hD 5 (by decide)) rfl rfl (fun cs h => by rw [pcL_of h]; exact noI_pc _ _) ?_
      intro n cs hb hR hold
      change v 5 = .pointer (some ⟨n, 0, none⟩) at hb
      rw [show readsOf plan_11_2 6 = [(17, 3), (6, 5)] from rfl]
      exact st_P hR (by rw [pcL_of hold]; exact pcL_len _ _) _ _ rfl hb h3 fun w' cs' hr he hk => ⟨trivial, hk, cs', hr, he⟩
    · intro L v w hL hD hC hI
      refine ⟨fun _ => ?_, fun hw => by cases hw⟩
      have h4 : (v 4) = .nilIface := hI.inv.val 4 (hD 4 (by decide))
      refine hI.val0 hL (by simp) rfl rfl ?_
      rw [show readsOf plan_11_2 7 = [(18, 4)] from rfl]
      exact ⟨h4, Ext.refl _⟩
    intro L v3 W3 hL hI
    obtain ⟨p, cs, hb_p, lo_p, hr, hn, ho⟩ := hI.inv.row_made ⟨some 5, 0, 43, some 6, fun cs => (Value.agg (List.toArray cs)) = .agg (pc (fun _ => 0) (fun _ => 0)), fun cs => (Value.agg (List.toArray cs)) = .agg (pc (fb x) (fb y))⟩ (by simp) 5 rfl (hL 5 (by decide))
    have R_p : RV W3 p 43 (fun u => u = .agg (pc (fb x) (fb y))) := ⟨cs, hr, hn 6 rfl (hL 6 (by decide))⟩
    clear hr hn ho
    replace R_k1 := R_k1.keep hI.inv.keep (by simp)
    replace R_raw := R_raw.keep hI.inv.keep (by simp)
    have hx' : Ext w W3 := hx.trans hI.inv.keep.to_ext
    have hs_7_2 : (v3 7) = .nilIface := hI.inv.val 7 (hL 7 (by decide))
    clear hx hI hL hok L
    have hx := hx'
    clear hx'
    simp only [putP, Act.put, List.setIfInBounds_toArray, List.set_cons_zero, List.set_cons_succ, hb_p, hs_7_2]
    go_upto_region 3 with fail
    have hok : TrsOk [] W3.heap.size ([⟨some 5, 0, 43, some 6, fun cs => (Value.agg (List.toArray cs)) = .agg (pc (fun _ => 0) (fun _ => 0)), fun cs => (Value.agg (List.toArray cs)) = .agg (pc (fb x) (fb y))⟩] : List Trk) := ⟨by simp, by simp, by simp, by simp⟩
    refine wp_region_text (InvN [] (fun j u => match j with | 0 => u = .agg (bcells (f1)) | 1 => u = .tuple #[.agg (pc (fb x) (fb y)), .bool (true)] | 2 => u = .tuple #[.agg (pc (fb x) (fb y)), .bool (true)] | 3 => u = .agg (pc (fb x) (fb y)) | 4 => u = .bool (true) | 7 => u = .bool (true) | _ => True) (fun _ => none) (fun _ => none) [⟨some 5, 0, 43, some 6, fun cs => (Value.agg (List.toArray cs)) = .agg (pc (fun _ => 0) (fun _ => 0)), fun cs => (Value.agg (List.toArray cs)) = .agg (pc (fb x) (fb y))⟩] W3) plan_11_3 [(20, 0), (21, 1), (19, 2), (22, 3), (23, 4), (8, 5), (9, 7)] 81 rfl (by kernel_rfl) (InvN.of (Inv.start0 hok (by simp))) ⟨?_, ?_, ?_, ?_, ?_, ?_, ?_, ?_, trivial⟩ ?_
    · intro L v w hL hD hC hI
      refine ⟨fun _ => ?_, fun hw => by cases hw⟩
      refine hI.val0 hL (by simp) rfl rfl ?_
      rw [show readsOf plan_11_3 0 = [] from rfl]
      exact ld_B (R_k1.keep hI.inv.keep (by simp)) _ rfl rfl fun u hu => ⟨hu, Ext.refl _⟩
    · intro L v w hL hD hC hI
      refine ⟨fun _ => ?_, fun hw => by cases hw⟩
      have h0 : (v 0) = .agg (bcells (f1)) := hI.inv.val 0 (hD 0 (by decide))
      refine hI.val0 hL (by simp) rfl rfl ?_
      rw [show readsOf plan_11_3 1 = [(20, 0)] from rfl]
      refine give_call _ _ _ _ rfl rfl Try.func53 (by kernel_rfl) (by kernel_rfl) ?_
      refine Calls.mono (calls_eq (hr w) (args' := #[v 0]) (by rw [h0])) ?_
      rintro e w' ⟨rfl, hx⟩
      exact ⟨_, rfl, rfl, hx⟩
    · intro L v w hL hD hC hI
      refine ⟨fun _ => ?_, fun hw => by cases hw⟩
      have h1 : (v 1) = .tuple #[.agg (pc (fb x) (fb y)), .bool (true)] := hI.inv.val 1 (hD 1 (by decide))
      refine hI.val0 hL (by simp) rfl rfl ?_
      rw [show readsOf plan_11_3 2 = [(21, 1)] from rfl]
      exact ⟨h1, Ext.refl _⟩
    · intro L v w hL hD hC hI
      refine ⟨fun _ => ?_, fun hw => by cases hw⟩
      have h2 : (v 2) = .tuple #[.agg (pc (fb x) (fb y)), .bool (true)] := hI.inv.val 2 (hD 2 (by decide))
      refine hI.val0 hL (by simp) rfl rfl ?_
      rw [show readsOf plan_11_3 3 = [(19, 2)] from rfl]
      exact give_ext _ _ _ rfl h2 _ rfl ⟨rfl, Ext.refl _⟩
    · intro L v w hL hD hC hI
      refine ⟨fun _ => ?_, fun hw => by cases hw⟩
      have h2 : (v 2) = .tuple #[.agg (pc (fb x) (fb y)), .bool (true)] := hI.inv.val 2 (hD 2 (by decide))
      refine hI.val0 hL (by simp) rfl rfl ?_
      rw [show readsOf plan_11_3 4 = [(19, 2)] from rfl]
      exact give_ext _ _ _ rfl h2 _ rfl ⟨rfl, Ext.refl _⟩
    · intro L v w hL hD hC hI
      refine ⟨fun _ => ?_, fun hw => by cases hw⟩
      refine InvN.alloc_step hok hI hL ⟨some 5, 0, 43, some 6, fun cs => (Value.agg (List.toArray cs)) = .agg (pc (fun _ => 0) (fun _ => 0)), fun cs => (Value.agg (List.toArray cs)) = .agg (pc (fb x) (fb y))⟩ (by simp) rfl (by simp) (by intro s hs; cases hs; exact not_yet hC hL (by decide)) rfl rfl ?_
      rw [show readsOf plan_11_3 5 = [] from rfl]
      go_simp
      first | exact ⟨rfl, pcL (fun _ => 0) (fun _ => 0), rfl, rfl⟩ | exact ⟨trivial, rfl, pcL (fun _ => 0) (fun _ => 0), rfl, rfl⟩ | exact ⟨rfl, (bcells fun _ => 0).toList, by rw [Array.toArray_toList], by rw [Array.toArray_toList]⟩
    · intro L v w hL hD hC hI
      refine ⟨fun _ => ?_, fun hw => by cases hw⟩
      have h3 : (v 3) = .agg (pc (fb x) (fb y)) := hI.inv.val 3 (hD 3 (by decide))
      refine InvN.store_step hok hI hL ⟨some 5, 0, 43, some 6, fun cs => (Value.agg (List.toArray cs)) = .agg (pc (fun _ => 0) (fun _ => 0)), fun cs => (Value.agg (List.toArray cs)) = .agg (pc (fb x) (fb y))⟩ (by simp) rfl (by simp) (by intro k hk; cases hk; exact hD 5 (by decide)) rfl rfl (fun cs h => by rw [pcL_of h]; exact noI_pc _ _) ?_
      intro n cs hb hR hold
      change v 5 = .pointer (some ⟨n, 0, none⟩) at hb
      rw [show readsOf plan_11_3 6 = [(22, 3), (8, 5)] from rfl]
      exact st_P hR (by rw [pcL_of hold]; exact pcL_len _ _) _ _ rfl hb h3 fun w' cs' hr he hk => ⟨trivial, hk, cs', hr, he⟩
    · intro L v w hL hD hC hI
      refine ⟨fun _ => ?_, fun hw => by cases hw⟩
      have h4 : (v 4) = .bool (true) := hI.inv.val 4 (hD 4 (by decide))
      refine hI.val0 hL (by simp) rfl rfl ?_
      rw [show readsOf plan_11_3 7 = [(23, 4)] from rfl]
      exact ⟨h4, Ext.refl _⟩
    intro L v4 W4 hL hI
    obtain ⟨want, cs, hb_want, lo_want, hr, hn, ho⟩ := hI.inv.row_made ⟨some 5, 0, 43, some 6, fun cs => (Value.agg (List.toArray cs)) = .agg (pc (fun _ => 0) (fun _ => 0)), fun cs => (Value.agg (List.toArray cs)) = .agg (pc (fb x) (fb y))⟩ (by simp) 5 rfl (hL 5 (by decide))
    have R_want : RV W4 want 43 (fun u => u = .agg (pc (fb x) (fb y))) := ⟨cs, hr, hn 6 rfl (hL 6 (by decide))⟩
    clear hr hn ho
    replace R_k1 := R_k1.keep hI.inv.keep (by simp)
    replace R_raw := R_raw.keep hI.inv.keep (by simp)
    replace R_p := R_p.keep hI.inv.keep (by simp)
    have hx' : Ext w W4 := hx.trans hI.inv.keep.to_ext
    have hs_9_3 : (v4 7) = .bool (true) := hI.inv.val 7 (hL 7 (by decide))
    clear hx hI hL hok L
    have hx := hx'
    clear hx'
    simp only [putP, Act.put, List.setIfInBounds_toArray, List.set_cons_zero, List.set_cons_succ, hb_want, hs_9_3]
    go_upto_region 4 with fail
    have hok : TrsOk [] W4.heap.size ([] : List Trk) := ⟨by simp, by simp, by simp, by simp⟩
    refine wp_region_text (InvN [] (fun j u => match j with | 0 => u = .bool (true) | 1 => u = .nilIface | 2 => u = .bool (true) | 3 => u = .bool (false) | 4 => u = .bool (false) | 5 => u = .bool (true) | 6 => u = .bool (false) | 7 => u = .bool (false) | 8 => u = undef | 9 => u = undef | 10 => u = undef | 11 => u = undef | 12 => u = undef | 13 => u = undef | 14 => u = undef | 15 => u = undef | 16 => u = .bool (false) | 17 => u = .bool (false) | 18 => u = .bool (false) | 19 => u = .bool (true) | 20 => u = .bool (true) | 21 => u = .agg (pc (fb x) (fb y)) | 22 => u = .agg (pc (fb x) (fb y)) | 23 => u = .bool (false) | 24 => u = .bool (false) | 25 => u = .bool (false) | _ => True) (fun _ => none) (fun _ => none) [] W4) plan_11_4 [(24, 0), (25, 1), (26, 2), (27, 3), (28, 4), (29, 5), (30, 6), (31, 7), (32, 8), (33, 9), (34, 10), (35, 11), (36, 12), (37, 13), (38, 14), (39, 15), (40, 16), (41, 17), (42, 18), (43, 19), (44, 20), (45, 21), (46, 22), (47, 23), (48, 24), (49, 25)] 81 rfl (by kernel_rfl) (InvN.of (Inv.start0 hok (by simp))) ⟨?_, ?_, ?_, ?_, ?_, ?_, ?_, ?_, ?_, ?_, ?_, ?_, ?_, ?_, ?_, ?_, ?_, ?_, ?_, ?_, ?_, ?_, ?_, ?_, ?_, ?_, trivial⟩ ?_
    · intro L v w hL hD hC hI
      refine ⟨fun _ => ?_, fun hw => by cases hw⟩
      refine hI.val0 hL (by simp) rfl rfl ?_
      rw [show readsOf plan_11_4 0 = [] from rfl]
      first | exact ⟨rfl, Ext.refl _⟩ | (go_simp; exact ⟨rfl, Ext.refl _⟩)
    · intro L v w hL hD hC hI
      refine ⟨fun _ => ?_, fun hw => by cases hw⟩
      refine hI.val0 hL (by simp) rfl rfl ?_
      rw [show readsOf plan_11_4 1 = [] from rfl]
      first | exact ⟨rfl, Ext.refl _⟩ | (go_simp; exact ⟨rfl, Ext.refl _⟩)
    · intro L v w hL hD hC hI
      refine ⟨fun _ => ?_, fun hw => by cases hw⟩
      have h1 : (v 1) = .nilIface := hI.inv.val 1 (hD 1 (by decide))
      refine hI.val0 hL (by simp) rfl rfl ?_
      rw [show readsOf plan_11_4 2 = [(25, 1)] from rfl]
      exact give_nil_eq _ _ rfl h1 rfl ⟨rfl, Ext.refl _⟩
    · intro L v w hL hD hC hI
      refine ⟨fun _ => ?_, fun hw => by cases hw⟩
      have h0 : (v 0) = .bool (true) := hI.inv.val 0 (hD 0 (by decide))
      have h2 : (v 2) = .bool (true) := hI.inv.val 2 (hD 2 (by decide))
      refine hI.val0 hL (by simp) rfl rfl ?_
      rw [show readsOf plan_11_4 3 = [(24, 0), (26, 2)] from rfl]
      exact give_bne _ _ _ rfl h0 h2 ⟨rfl, Ext.refl _⟩
    · intro L v w hL hD hC hI
      refine ⟨fun _ => ?_, fun hw => by cases hw⟩
      have h3 : (v 3) = .bool (false) := hI.inv.val 3 (hD 3 (by decide))
      refine hI.val0 hL (by simp) rfl rfl ?_
      rw [show readsOf plan_11_4 4 = [(27, 3)] from rfl]
      exact ⟨h3, Ext.refl _⟩
    · intro L v w hL hD hC hI
      have hg : v 4 = .bool false := hI.inv.val 4 (hD 4 (by decide))
      refine ⟨fun _ => ?_, fun hw => by simp [wantedV, hg] at hw⟩
      have h4 : (v 4) = .bool (false) := hI.inv.val 4 (hD 4 (by decide))
      refine hI.val0 hL (by simp) rfl rfl ?_
      rw [show readsOf plan_11_4 5 = [(28, 4)] from rfl]
      first | exact ⟨rfl, Ext.refl _⟩ | (go_simp; exact ⟨rfl, Ext.refl _⟩)
    · intro L v w hL hD hC hI
      have hg : v 4 = .bool false := hI.inv.val 4 (hD 4 (by decide))
      refine ⟨fun _ => ?_, fun hw => by simp [wantedV, hg] at hw⟩
      have h4 : (v 4) = .bool (false) := hI.inv.val 4 (hD 4 (by decide))
      have h5 : (v 5) = .bool (true) := hI.inv.val 5 (hD 5 (by decide))
      refine hI.val0 hL (by simp) rfl rfl ?_
      rw [show readsOf plan_11_4 6 = [(28, 4), (29, 5)] from rfl]
      exact give_not _ _ rfl h5 ⟨rfl, Ext.refl _⟩
    · intro L v w hL hD hC hI
      have hg : v 4 = .bool false := hI.inv.val 4 (hD 4 (by decide))
      refine ⟨fun _ => ?_, fun hw => by simp [wantedV, hg] at hw⟩
      have h4 : (v 4) = .bool (false) := hI.inv.val 4 (hD 4 (by decide))
      have h6 : (v 6) = .bool (false) := hI.inv.val 6 (hD 6 (by decide))
      refine hI.val0 hL (by simp) rfl rfl ?_
      rw [show readsOf plan_11_4 7 = [(28, 4), (30, 6)] from rfl]
      exact ⟨h6, Ext.refl _⟩
    · intro L v w hL hD hC hI
      have hg : (v 7) = .bool (false) := hI.inv.val 7 (hD 7 (by decide))
      exact ⟨fun hw => by simp [wantedV, hg, undef] at hw, fun _ => (InvN.skip Try.prog hI hL (by simp) rfl rfl rfl)⟩
    · intro L v w hL hD hC hI
      have hg : (v 7) = .bool (false) := hI.inv.val 7 (hD 7 (by decide))
      exact ⟨fun hw => by simp [wantedV, hg, undef] at hw, fun _ => (InvN.skip Try.prog hI hL (by simp) rfl rfl rfl)⟩
    · intro L v w hL hD hC hI
      have hg : (v 7) = .bool (false) := hI.inv.val 7 (hD 7 (by decide))
      exact ⟨fun hw => by simp [wantedV, hg, undef] at hw, fun _ => (InvN.skip Try.prog hI hL (by simp) rfl rfl rfl)⟩
    · intro L v w hL hD hC hI
      have hg : (v 7) = .bool (false) := hI.inv.val 7 (hD 7 (by decide))
      exact ⟨fun hw => by simp [wantedV, hg, undef] at hw, fun _ => (InvN.skip Try.prog hI hL (by simp) rfl rfl rfl)⟩
    · intro L v w hL hD hC hI
      have hg : (v 11) = undef := hI.inv.val 11 (hD 11 (by decide))
      exact ⟨fun hw => by simp [wantedV, hg, undef] at hw, fun _ => (InvN.skip Try.prog hI hL (by simp) rfl rfl rfl)⟩
    · intro L v w hL hD hC hI
      have hg : (v 11) = undef := hI.inv.val 11 (hD 11 (by decide))
      exact ⟨fun hw => by simp [wantedV, hg, undef] at hw, fun _ => (InvN.skip Try.prog hI hL (by simp) rfl rfl rfl)⟩
    · intro L v w hL hD hC hI
      have hg : (v 11) = undef := hI.inv.val 11 (hD 11 (by decide))
      exact ⟨fun hw => by simp [wantedV, hg, undef] at hw, fun _ => (InvN.skip Try.prog hI hL (by simp) rfl rfl rfl)⟩
    · intro L v w hL hD hC hI
      have hg : (v 7) = .bool (false) := hI.inv.val 7 (hD 7 (by decide))
      exact ⟨fun hw => by simp [wantedV, hg, undef] at hw, fun _ => (InvN.skip Try.prog hI hL (by simp) rfl rfl rfl)⟩
    · intro L v w hL hD hC hI
      have hg : v 4 = .bool false := hI.inv.val 4 (hD 4 (by decide))
      refine ⟨fun _ => ?_, fun hw => by simp [wantedV, hg] at hw⟩
      have h4 : (v 4) = .bool (false) := hI.inv.val 4 (hD 4 (by decide))
      have h7 : (v 7) = .bool (false) := hI.inv.val 7 (hD 7 (by decide))
      have h15 : (v 15) = undef := hI.inv.val 15 (hD 15 (by decide))
      refine hI.val0 hL (by simp) rfl rfl ?_
      rw [show readsOf plan_11_4 16 = [(28, 4), (31, 7), (39, 15)] from rfl]
      exact give_pick_f _ _ _ rfl h7 ⟨rfl, Ext.refl _⟩
    · intro L v w hL hD hC hI
      refine ⟨fun _ => ?_, fun hw => by cases hw⟩
      have h4 : (v 4) = .bool (false) := hI.inv.val 4 (hD 4 (by decide))
      have h16 : (v 16) = .bool (false) := hI.inv.val 16 (hD 16 (by decide))
      refine hI.val0 hL (by simp) rfl rfl ?_
      rw [show readsOf plan_11_4 17 = [(28, 4), (40, 16)] from rfl]
      exact give_pick_f _ _ _ rfl h4 ⟨h16, Ext.refl _⟩
    · intro L v w hL hD hC hI
      refine ⟨fun _ => ?_, fun hw => by cases hw⟩
      have h17 : (v 17) = .bool (false) := hI.inv.val 17 (hD 17 (by decide))
      refine hI.val0 hL (by simp) rfl rfl ?_
      rw [show readsOf plan_11_4 18 = [(41, 17)] from rfl]
      exact ⟨h17, Ext.refl _⟩
    · intro L v w hL hD hC hI
      have hg : v 18 = .bool false := hI.inv.val 18 (hD 18 (by decide))
      refine ⟨fun _ => ?_, fun hw => by simp [wantedV, hg] at hw⟩
      have h18 : (v 18) = .bool (false) := hI.inv.val 18 (hD 18 (by decide))
      refine hI.val0 hL (by simp) rfl rfl ?_
      rw [show readsOf plan_11_4 19 = [(42, 18)] from rfl]
      first | exact ⟨rfl, Ext.refl _⟩ | (go_simp; exact ⟨rfl, Ext.refl _⟩)
    · intro L v w hL hD hC hI
      have hg : v 18 = .bool false := hI.inv.val 18 (hD 18 (by decide))
      refine ⟨fun _ => ?_, fun hw => by simp [wantedV, hg] at hw⟩
      have h18 : (v 18) = .bool (false) := hI.inv.val 18 (hD 18 (by decide))
      have h19 : (v 19) = .bool (true) := hI.inv.val 19 (hD 19 (by decide))
      refine hI.val0 hL (by simp) rfl rfl ?_
      rw [show readsOf plan_11_4 20 = [(42, 18), (43, 19)] from rfl]
      exact ⟨h19, Ext.refl _⟩
    · intro L v w hL hD hC hI
      have hg : v 20 = .bool true := hI.inv.val 20 (hD 20 (by decide))
      refine ⟨fun _ => ?_, fun hw => by simp [wantedV, hg] at hw⟩
      have h20 : (v 20) = .bool (true) := hI.inv.val 20 (hD 20 (by decide))
      refine hI.val0 hL (by simp) rfl rfl ?_
      rw [show readsOf plan_11_4 21 = [(44, 20)] from rfl]
      exact ld_P (R_p.keep hI.inv.keep (by simp)) _ rfl rfl fun u hu => ⟨hu, Ext.refl _⟩
    · intro L v w hL hD hC hI
      have hg : v 20 = .bool true := hI.inv.val 20 (hD 20 (by decide))
      refine ⟨fun _ => ?_, fun hw => by simp [wantedV, hg] at hw⟩
      have h20 : (v 20) = .bool (true) := hI.inv.val 20 (hD 20 (by decide))
      refine hI.val0 hL (by simp) rfl rfl ?_
      rw [show readsOf plan_11_4 22 = [(44, 20)] from rfl]
      exact ld_P (R_want.keep hI.inv.keep (by simp)) _ rfl rfl fun u hu => ⟨hu, Ext.refl _⟩
    · intro L v w hL hD hC hI
      have hg : v 20 = .bool true := hI.inv.val 20 (hD 20 (by decide))
      refine ⟨fun _ => ?_, fun hw => by simp [wantedV, hg] at hw⟩
      have h20 : (v 20) = .bool (true) := hI.inv.val 20 (hD 20 (by decide))
      have h21 : (v 21) = .agg (pc (fb x) (fb y)) := hI.inv.val 21 (hD 21 (by decide))
      have h22 : (v 22) = .agg (pc (fb x) (fb y)) := hI.inv.val 22 (hD 22 (by decide))
      refine hI.val0 hL (by simp) rfl rfl ?_
      rw [show readsOf plan_11_4 23 = [(44, 20), (45, 21), (46, 22)] from rfl]
      exact give_neP _ _ _ _ _ _ _ rfl h21 h22 ⟨by simp [beqb_self], Ext.refl _⟩
    · intro L v w hL hD hC hI
      have hg : v 18 = .bool false := hI.inv.val 18 (hD 18 (by decide))
      refine ⟨fun _ => ?_, fun hw => by simp [wantedV, hg] at hw⟩
      have h18 : (v 18) = .bool (false) := hI.inv.val 18 (hD 18 (by decide))
      have h20 : (v 20) = .bool (true) := hI.inv.val 20 (hD 20 (by decide))
      have h23 : (v 23) = .bool (false) := hI.inv.val 23 (hD 23 (by decide))
      refine hI.val0 hL (by simp) rfl rfl ?_
      rw [show readsOf plan_11_4 24 = [(42, 18), (44, 20), (47, 23)] from rfl]
      exact give_pick_t _ _ _ rfl h20 ⟨h23, Ext.refl _⟩
    · intro L v w hL hD hC hI
      refine ⟨fun _ => ?_, fun hw => by cases hw⟩
      have h18 : (v 18) = .bool (false) := hI.inv.val 18 (hD 18 (by decide))
      have h24 : (v 24) = .bool (false) := hI.inv.val 24 (hD 24 (by decide))
      refine hI.val0 hL (by simp) rfl rfl ?_
      rw [show readsOf plan_11_4 25 = [(42, 18), (48, 24)] from rfl]
      exact give_pick_f _ _ _ rfl h18 ⟨h24, Ext.refl _⟩
    intro L v5 W5 hL hI
    replace R_k1 := R_k1.keep hI.inv.keep (by simp)
    replace R_raw := R_raw.keep hI.inv.keep (by simp)
    replace R_p := R_p.keep hI.inv.keep (by simp)
    replace R_want := R_want.keep hI.inv.keep (by simp)
    have hx' : Ext w W5 := hx.trans hI.inv.keep.to_ext
    have hs_24_4 : (v5 0) = .bool (true) := hI.inv.val 0 (hL 0 (by decide))
    have hs_25_4 : (v5 1) = .nilIface := hI.inv.val 1 (hL 1 (by decide))
    have hs_28_4 : (v5 4) = .bool (false) := hI.inv.val 4 (hL 4 (by decide))
    have hs_29_4 : (v5 5) = .bool (true) := hI.inv.val 5 (hL 5 (by decide))
    have hs_31_4 : (v5 7) = .bool (false) := hI.inv.val 7 (hL 7 (by decide))
    have hs_32_4 : (v5 8) = undef := hI.inv.val 8 (hL 8 (by decide))
    have hs_35_4 : (v5 11) = undef := hI.inv.val 11 (hL 11 (by decide))
    have hs_42_4 : (v5 18) = .bool (false) := hI.inv.val 18 (hL 18 (by decide))
    have hs_43_4 : (v5 19) = .bool (true) := hI.inv.val 19 (hL 19 (by decide))
    have hs_44_4 : (v5 20) = .bool (true) := hI.inv.val 20 (hL 20 (by decide))
    have hs_49_4 : (v5 25) = .bool (false) := hI.inv.val 25 (hL 25 (by decide))
    clear hx hI hL hok L
    have hx := hx'
    clear hx'
    simp only [putP, Act.put, List.setIfInBounds_toArray, List.set_cons_zero, List.set_cons_succ, hs_24_4, hs_25_4, hs_28_4, hs_29_4, hs_31_4, hs_32_4, hs_35_4, hs_42_4, hs_43_4, hs_44_4, hs_49_4]
    clear R_k1
    clear R_p
    clear R_want
    go_upto_region 6 with fail
    by_cases hon : C7.on (tf (V rf)) (tf (V rg))
    · skip
      have hok : TrsOk [] W5.heap.size ([⟨some 5, 0, 22, some 6, fun cs => (Value.agg (List.toArray cs)) = .agg (bcells (fun _ => 0)), fun cs => (Value.agg (List.toArray cs)) = .agg (bcells (encF (tf (V (rf))) (tf (V (rg)))))⟩] : List Trk) := ⟨by simp, by simp, by simp, by simp⟩
      refine wp_region_text (InvN [] (fun j u => match j with | 0 => u = .agg (pc (rf) (rg)) | 1 => u = .tuple #[.agg (bcells (encF (tf (V (rf))) (tf (V (rg))))), .nilIface] | 2 => u = .tuple #[.agg (bcells (encF (tf (V (rf))) (tf (V (rg))))), .nilIface] | 3 => u = .agg (bcells (encF (tf (V (rf))) (tf (V (rg))))) | 4 => u = .nilIface | 7 => u = .nilIface | _ => True) (fun _ => none) (fun _ => none) [⟨some 5, 0, 22, some 6, fun cs => (Value.agg (List.toArray cs)) = .agg (bcells (fun _ => 0)), fun cs => (Value.agg (List.toArray cs)) = .agg (bcells (encF (tf (V (rf))) (tf (V (rg)))))⟩] W5) plan_11_6 [(51, 0), (52, 1), (50, 2), (53, 3), (54, 4), (10, 5), (11, 7)] 81 rfl (by kernel_rfl) (InvN.of (Inv.start0 hok (by simp))) ⟨?_, ?_, ?_, ?_, ?_, ?_, ?_, ?_, trivial⟩ ?_
      · intro L v w hL hD hC hI
        refine ⟨fun _ => ?_, fun hw => by cases hw⟩
        refine hI.val0 hL (by simp) rfl rfl ?_
        rw [show readsOf plan_11_6 0 = [] from rfl]
        exact ld_P (R_raw.keep hI.inv.keep (by simp)) _ rfl rfl fun u hu => ⟨hu, Ext.refl _⟩
      · intro L v w hL hD hC hI
        refine ⟨fun _ => ?_, fun hw => by cases hw⟩
        have h0 : (v 0) = .agg (pc (rf) (rg)) := hI.inv.val 0 (hD 0 (by decide))
        refine hI.val0 hL (by simp) rfl rfl ?_
        rw [show readsOf plan_11_6 1 = [(51, 0)] from rfl]
        refine give_call _ _ _ _ rfl rfl Try.func54 (by kernel_rfl) (by kernel_rfl) ?_
        refine Calls.mono (calls_eq (enc_on hon w) (args' := #[v 0]) (by rw [h0])) ?_
        rintro e w' ⟨rfl, hx⟩
        exact ⟨_, rfl, rfl, hx⟩
      · intro L v w hL hD hC hI
        refine ⟨fun _ => ?_, fun hw => by cases hw⟩
        have h1 : (v 1) = .tuple #[.agg (bcells (encF (tf (V (rf))) (tf (V (rg))))), .nilIface] := hI.inv.val 1 (hD 1 (by decide))
        refine hI.val0 hL (by simp) rfl rfl ?_
        rw [show readsOf plan_11_6 2 = [(52, 1)] from rfl]
        exact ⟨h1, Ext.refl _⟩
      · intro L v w hL hD hC hI
        refine ⟨fun _ => ?_, fun hw => by cases hw⟩
        have h2 : (v 2) = .tuple #[.agg (bcells (encF (tf (V (rf))) (tf (V (rg))))), .nilIface] := hI.inv.val 2 (hD 2 (by decide))
        refine hI.val0 hL (by simp) rfl rfl ?_
        rw [show readsOf plan_11_6 3 = [(50, 2)] from rfl]
        exact give_ext _ _ _ rfl h2 _ rfl ⟨rfl, Ext.refl _⟩
      · intro L v w hL hD hC hI
        refine ⟨fun _ => ?_, fun hw => by cases hw⟩
        have h2 : (v 2) = .tuple #[.agg (bcells (encF (tf (V (rf))) (tf (V (rg))))), .nilIface] := hI.inv.val 2 (hD 2 (by decide))
        refine hI.val0 hL (by simp) rfl rfl ?_
        rw [show readsOf plan_11_6 4 = [(50, 2)] from rfl]
        exact give_ext _ _ _ rfl h2 _ rfl ⟨rfl, Ext.refl _⟩
      · intro L v w hL hD hC hI
        refine ⟨fun _ => ?_, fun hw => by cases hw⟩
        refine InvN.alloc_step hok hI hL ⟨some 5, 0, 22, some 6, fun cs => (Value.agg (List.toArray cs)) = .agg (bcells (fun _ => 0)), fun cs => (Value.agg (List.toArray cs)) = .agg (bcells (encF (tf (V (rf))) (tf (V (rg)))))⟩ (by simp) rfl (by simp) (by intro s hs; cases hs; exact not_yet hC hL (by decide)) rfl rfl ?_
        rw [show readsOf plan_11_6 5 = [] from rfl]
        go_simp
        first | exact ⟨rfl, pcL (fun _ => 0) (fun _ => 0), rfl, rfl⟩ | exact ⟨trivial, rfl, pcL (fun _ => 0) (fun _ => 0), rfl, rfl⟩ | exact ⟨rfl, (bcells fun _ => 0).toList, by rw [Array.toArray_toList], by rw [Array.toArray_toList]⟩
      · intro L v w hL hD hC hI
        refine ⟨fun _ => ?_, fun hw => by cases hw⟩
        have h3 : (v 3) = .agg (bcells (encF (tf (V (rf))) (tf (V (rg))))) := hI.inv.val 3 (hD 3 (by decide))
        refine InvN.store_step hok hI hL ⟨some 5, 0, 22, some 6, fun cs => (Value.agg (List.toArray cs)) = .agg (bcells (fun _ => 0)), fun cs => (Value.agg (List.toArray cs)) = .agg (bcells (encF (tf (V (rf))) (tf (V (rg)))))⟩ (by simp) rfl (by simp) (by intro k hk; cases hk; exact hD 5 (by decide)) rfl rfl (fun cs h => by rw [bL_of h]; exact noI_b _) ?_
        intro n cs hb hR hold
        change v 5 = .pointer (some ⟨n, 0, none⟩) at hb
        rw [show readsOf plan_11_6 6 = [(53, 3), (10, 5)] from rfl]
        exact st_B hR (by rw [bL_of hold]; simp) _ _ rfl hb h3 fun w' cs' hr he hk => ⟨trivial, hk, cs', hr, he⟩
      · intro L v w hL hD hC hI
        refine ⟨fun _ => ?_, fun hw => by cases hw⟩
        have h4 : (v 4) = .nilIface := hI.inv.val 4 (hD 4 (by decide))
        refine hI.val0 hL (by simp) rfl rfl ?_
        rw [show readsOf plan_11_6 7 = [(54, 4)] from rfl]
        exact ⟨h4, Ext.refl _⟩
      intro L v6 W6 hL hI
      obtain ⟨c, cs, hb_c, lo_c, hr, hn, ho⟩ := hI.inv.row_made ⟨some 5, 0, 22, some 6, fun cs => (Value.agg (List.toArray cs)) = .agg (bcells (fun _ => 0)), fun cs => (Value.agg (List.toArray cs)) = .agg (bcells (encF (tf (V (rf))) (tf (V (rg)))))⟩ (by simp) 5 rfl (hL 5 (by decide))
      have R_c : RV W6 c 22 (fun u => u = .agg (bcells (encF (tf (V (rf))) (tf (V (rg)))))) := ⟨cs, hr, hn 6 rfl (hL 6 (by decide))⟩
      clear hr hn ho
      replace R_raw := R_raw.keep hI.inv.keep (by simp)
      have hx' : Ext w W6 := hx.trans hI.inv.keep.to_ext
      have hs_11_6 : (v6 7) = .nilIface := hI.inv.val 7 (hL 7 (by decide))
      clear hx hI hL hok L
      have hx := hx'
      clear hx'
      simp only [putP, Act.put, List.setIfInBounds_toArray, List.set_cons_zero, List.set_cons_succ, hb_c, hs_11_6]
      go_upto_region 7 with fail
      have hok : TrsOk [] W6.heap.size ([] : List Trk) := ⟨by simp, by simp, by simp, by simp⟩
      refine wp_region_text (InvN [] (fun j u => match j with | 0 => u = .agg (pc (rf) (rg)) | 1 => u = .bool (true) | 2 => u = .bool (true) | _ => True) (fun _ => none) (fun _ => none) [] W6) plan_11_7 [(55, 0), (56, 1), (12, 2)] 81 rfl (by kernel_rfl) (InvN.of (Inv.start0 hok (by simp))) ⟨?_, ?_, ?_, trivial⟩ ?_
      · intro L v w hL hD hC hI
        refine ⟨fun _ => ?_, fun hw => by cases hw⟩
        refine hI.val0 hL (by simp) rfl rfl ?_
        rw [show readsOf plan_11_7 0 = [] from rfl]
        exact ld_P (R_raw.keep hI.inv.keep (by simp)) _ rfl rfl fun u hu => ⟨hu, Ext.refl _⟩
      · intro L v w hL hD hC hI
        refine ⟨fun _ => ?_, fun hw => by cases hw⟩
        have h0 : (v 0) = .agg (pc (rf) (rg)) := hI.inv.val 0 (hD 0 (by decide))
        refine hI.val0 hL (by simp) rfl rfl ?_
        rw [show readsOf plan_11_7 1 = [(55, 0)] from rfl]
        refine give_call _ _ _ _ rfl rfl Try.func31 (by kernel_rfl) (by kernel_rfl) ?_
        refine Calls.mono (calls_eq (ris_t hon w) (args' := #[v 0]) (by rw [h0])) ?_
        rintro e w' ⟨rfl, hx⟩
        exact ⟨_, rfl, rfl, hx⟩
      · intro L v w hL hD hC hI
        refine ⟨fun _ => ?_, fun hw => by cases hw⟩
        have h1 : (v 1) = .bool (true) := hI.inv.val 1 (hD 1 (by decide))
        refine hI.val0 hL (by simp) rfl rfl ?_
        rw [show readsOf plan_11_7 2 = [(56, 1)] from rfl]
        exact ⟨h1, Ext.refl _⟩
      intro L v7 W7 hL hI
      replace R_raw := R_raw.keep hI.inv.keep (by simp)
      replace R_c := R_c.keep hI.inv.keep (by simp)
      have hx' : Ext w W7 := hx.trans hI.inv.keep.to_ext
      have hs_12_7 : (v7 2) = .bool (true) := hI.inv.val 2 (hL 2 (by decide))
      clear hx hI hL hok L
      have hx := hx'
      clear hx'
      simp only [putP, Act.put, List.setIfInBounds_toArray, List.set_cons_zero, List.set_cons_succ, hs_12_7]
      go_upto_region 8 with fail
      have hok : TrsOk [] W7.heap.size ([] : List Trk) := ⟨by simp, by simp, by simp, by simp⟩
      refine wp_region_text (InvN [] (fun j u => match j with | 0 => u = .bool (true) | 1 => u = .bool (false) | _ => True) (fun _ => none) (fun _ => none) [] W7) plan_11_8 [(57, 0), (58, 1)] 81 rfl (by kernel_rfl) (InvN.of (Inv.start0 hok (by simp))) ⟨?_, ?_, trivial⟩ ?_
      · intro L v w hL hD hC hI
        refine ⟨fun _ => ?_, fun hw => by cases hw⟩
        refine hI.val0 hL (by simp) rfl rfl ?_
        rw [show readsOf plan_11_8 0 = [] from rfl]
        first | exact ⟨rfl, Ext.refl _⟩ | (go_simp; exact ⟨rfl, Ext.refl _⟩)
      · intro L v w hL hD hC hI
        refine ⟨fun _ => ?_, fun hw => by cases hw⟩
        have h0 : (v 0) = .bool (true) := hI.inv.val 0 (hD 0 (by decide))
        refine hI.val0 hL (by simp) rfl rfl ?_
        rw [show readsOf plan_11_8 1 = [(57, 0)] from rfl]
        exact give_not _ _ rfl h0 ⟨rfl, Ext.refl _⟩
      intro L v8 W8 hL hI
      replace R_raw := R_raw.keep hI.inv.keep (by simp)
      replace R_c := R_c.keep hI.inv.keep (by simp)
      have hx' : Ext w W8 := hx.trans hI.inv.keep.to_ext
      have hs_57_8 : (v8 0) = .bool (true) := hI.inv.val 0 (hL 0 (by decide))
      have hs_58_8 : (v8 1) = .bool (false) := hI.inv.val 1 (hL 1 (by decide))
      clear hx hI hL hok L
      have hx := hx'
      clear hx'
      simp only [putP, Act.put, List.setIfInBounds_toArray, List.set_cons_zero, List.set_cons_succ, hs_57_8, hs_58_8]
      go_upto_region 10 with fail
      have hok : TrsOk [] W8.heap.size ([] : List Trk) := ⟨by simp, by simp, by simp, by simp⟩
      refine wp_region_plan (InvN [] (fun j u => match j with | 0 => u = .bool (true) | 1 => u = .bool (true) | 2 => u = .nilIface | 3 => u = .bool (true) | 4 => u = .bool (true) | 5 => u = .bool (true) | 6 => u = .agg (bcells (encF (tf (V (rf))) (tf (V (rg))))) | 7 => u = .agg (pc (rf) (rg)) | 8 => u = .agg (bcells (encF (tf (V (rf))) (tf (V (rg))))) | 9 => u = .bool (true) | 10 => u = .bool (true) | 11 => u = .bool (true) | _ => True) (fun _ => none) (fun _ => none) [] W8) plan_11_10 [(70, 0), (71, 1), (72, 2), (73, 3), (74, 4), (75, 5), (76, 6), (77, 7), (78, 8), (79, 9), (80, 10), (4, 11)] 81 (by kernel_rfl) rfl (by kernel_rfl) (InvN.of (Inv.start hok (by simp))) ⟨?_, ?_, ?_, ?_, ?_, ?_, ?_, ?_, ?_, ?_, ?_, ?_, trivial⟩ ?_
      · intro L v w hL hD hC hI
        refine ⟨fun _ => ?_, fun hw => by cases hw⟩
        refine hI.val0 hL (by simp) rfl rfl ?_
        rw [show readsOf plan_11_10 0 = [] from rfl]
        first | exact ⟨rfl, Ext.refl _⟩ | (go_simp; exact ⟨rfl, Ext.refl _⟩)
      · intro L v w hL hD hC hI
        refine ⟨fun _ => ?_, fun hw => by cases hw⟩
        have h0 : (v 0) = .bool (true) := hI.inv.val 0 (hD 0 (by decide))
        refine hI.val0 hL (by simp) rfl rfl ?_
        rw [show readsOf plan_11_10 1 = [(70, 0)] from rfl]
        exact ⟨h0, Ext.refl _⟩
      · intro L v w hL hD hC hI
        have hg : v 1 = .bool true := hI.inv.val 1 (hD 1 (by decide))
        refine ⟨fun _ => ?_, fun hw => by simp [wantedV, hg] at hw⟩
        have h1 : (v 1) = .bool (true) := hI.inv.val 1 (hD 1 (by decide))
        refine hI.val0 hL (by simp) rfl rfl ?_
        rw [show readsOf plan_11_10 2 = [(71, 1)] from rfl]
        first | exact ⟨rfl, Ext.refl _⟩ | (go_simp; exact ⟨rfl, Ext.refl _⟩)
      · intro L v w hL hD hC hI
        have hg : v 1 = .bool true := hI.inv.val 1 (hD 1 (by decide))
        refine ⟨fun _ => ?_, fun hw => by simp [wantedV, hg] at hw⟩
        have h1 : (v 1) = .bool (true) := hI.inv.val 1 (hD 1 (by decide))
        have h2 : (v 2) = .nilIface := hI.inv.val 2 (hD 2 (by decide))
        refine hI.val0 hL (by simp) rfl rfl ?_
        rw [show readsOf plan_11_10 3 = [(71, 1), (72, 2)] from rfl]
        exact give_nil_eq _ _ rfl h2 rfl ⟨rfl, Ext.refl _⟩
      · intro L v w hL hD hC hI
        refine ⟨fun _ => ?_, fun hw => by cases hw⟩
        have h1 : (v 1) = .bool (true) := hI.inv.val 1 (hD 1 (by decide))
        have h3 : (v 3) = .bool (true) := hI.inv.val 3 (hD 3 (by decide))
        refine hI.val0 hL (by simp) rfl rfl ?_
        rw [show readsOf plan_11_10 4 = [(71, 1), (73, 3)] from rfl]
        exact give_pick_t _ _ _ rfl h1 ⟨h3, Ext.refl _⟩
      · intro L v w hL hD hC hI
        refine ⟨fun _ => ?_, fun hw => by cases hw⟩
        have h4 : (v 4) = .bool (true) := hI.inv.val 4 (hD 4 (by decide))
        refine hI.val0 hL (by simp) rfl rfl ?_
        rw [show readsOf plan_11_10 5 = [(74, 4)] from rfl]
        exact ⟨h4, Ext.refl _⟩
      · intro L v w hL hD hC hI
        have hg : v 5 = .bool true := hI.inv.val 5 (hD 5 (by decide))
        refine ⟨fun _ => ?_, fun hw => by simp [wantedV, hg] at hw⟩
        have h5 : (v 5) = .bool (true) := hI.inv.val 5 (hD 5 (by decide))
        refine hI.val0 hL (by simp) rfl rfl ?_
        rw [show readsOf plan_11_10 6 = [(75, 5)] from rfl]
        exact ld_B (R_c.keep hI.inv.keep (by simp)) _ rfl rfl fun u hu => ⟨hu, Ext.refl _⟩
      · intro L v w hL hD hC hI
        have hg : v 5 = .bool true := hI.inv.val 5 (hD 5 (by decide))
        refine ⟨fun _ => ?_, fun hw => by simp [wantedV, hg] at hw⟩
        have h5 : (v 5) = .bool (true) := hI.inv.val 5 (hD 5 (by decide))
        refine hI.val0 hL (by simp) rfl rfl ?_
        rw [show readsOf plan_11_10 7 = [(75, 5)] from rfl]
        exact ld_P (R_raw.keep hI.inv.keep (by simp)) _ rfl rfl fun u hu => ⟨hu, Ext.refl _⟩
      · intro L v w hL hD hC hI
        have hg : v 5 = .bool true := hI.inv.val 5 (hD 5 (by decide))
        refine ⟨fun _ => ?_, fun hw => by simp [wantedV, hg] at hw⟩
        have h5 : (v 5) = .bool (true) := hI.inv.val 5 (hD 5 (by decide))
        have h7 : (v 7) = .agg (pc (rf) (rg)) := hI.inv.val 7 (hD 7 (by decide))
        refine hI.val0 hL (by simp) rfl rfl ?_
        rw [show readsOf plan_11_10 8 = [(75, 5), (77, 7)] from rfl]
        refine give_call _ _ _ _ rfl rfl Try.func55 (by kernel_rfl) (by kernel_rfl) ?_
        refine Calls.mono (calls_eq (renc rf rg w) (args' := #[v 7]) (by rw [h7])) ?_
        rintro e w' ⟨rfl, hx⟩
        exact ⟨_, rfl, rfl, hx⟩
      · intro L v w hL hD hC hI
        have hg : v 5 = .bool true := hI.inv.val 5 (hD 5 (by decide))
        refine ⟨fun _ => ?_, fun hw => by simp [wantedV, hg] at hw⟩
        have h5 : (v 5) = .bool (true) := hI.inv.val 5 (hD 5 (by decide))
        have h6 : (v 6) = .agg (bcells (encF (tf (V (rf))) (tf (V (rg))))) := hI.inv.val 6 (hD 6 (by decide))
        have h8 : (v 8) = .agg (bcells (encF (tf (V (rf))) (tf (V (rg))))) := hI.inv.val 8 (hD 8 (by decide))
        refine hI.val0 hL (by simp) rfl rfl ?_
        rw [show readsOf plan_11_10 9 = [(75, 5), (76, 6), (78, 8)] from rfl]
        simp only [putP, Act.put, List.setIfInBounds_toArray, List.set_cons_zero, List.set_cons_succ, h6, h8]
        go_simp
        exact ⟨by simp [beqb_self], Ext.refl _⟩
      · intro L v w hL hD hC hI
        refine ⟨fun _ => ?_, fun hw => by cases hw⟩
        have h5 : (v 5) = .bool (true) := hI.inv.val 5 (hD 5 (by decide))
        have h9 : (v 9) = .bool (true) := hI.inv.val 9 (hD 9 (by decide))
        refine hI.val0 hL (by simp) rfl rfl ?_
        rw [show readsOf plan_11_10 10 = [(75, 5), (79, 9)] from rfl]
        exact give_pick_t _ _ _ rfl h5 ⟨h9, Ext.refl _⟩
      · intro L v w hL hD hC hI
        refine ⟨fun _ => ?_, fun hw => by cases hw⟩
        have h10 : (v 10) = .bool (true) := hI.inv.val 10 (hD 10 (by decide))
        refine hI.val0 hL (by simp) rfl rfl ?_
        rw [show readsOf plan_11_10 11 = [(80, 10)] from rfl]
        exact ⟨h10, Ext.refl _⟩
      intro L v9 W9 hL hI
      replace R_raw := R_raw.keep hI.inv.keep (by simp)
      replace R_c := R_c.keep hI.inv.keep (by simp)
      have hx' : Ext w W9 := hx.trans hI.inv.keep.to_ext
      have hs_70_10 : (v9 0) = .bool (true) := hI.inv.val 0 (hL 0 (by decide))
      have hs_71_10 : (v9 1) = .bool (true) := hI.inv.val 1 (hL 1 (by decide))
      have hs_72_10 : (v9 2) = .nilIface := hI.inv.val 2 (hL 2 (by decide))
      have hs_75_10 : (v9 5) = .bool (true) := hI.inv.val 5 (hL 5 (by decide))
      have hs_4_10 : (v9 11) = .bool (true) := hI.inv.val 11 (hL 11 (by decide))
      clear hx hI hL hok L
      have hx := hx'
      clear hx'
      simp only [putP, Act.put, List.setIfInBounds_toArray, List.set_cons_zero, List.set_cons_succ, hs_70_10, hs_71_10, hs_72_10, hs_75_10, hs_4_10]
      go_wp2
      go_ret
      exact ⟨rfl, hx⟩
    · skip
      have hok : TrsOk [] W5.heap.size ([⟨some 5, 0, 22, some 6, fun cs => (Value.agg (List.toArray cs)) = .agg (bcells (fun _ => 0)), fun cs => (Value.agg (List.toArray cs)) = .agg (bcells (fun _ => 0))⟩] : List Trk) := ⟨by simp, by simp, by simp, by simp⟩
      refine wp_region_text (InvN [] (fun j u => match j with | 0 => u = .agg (pc (rf) (rg)) | 1 => u = .tuple #[.agg (bcells (fun _ => 0)), errPoint] | 2 => u = .tuple #[.agg (bcells (fun _ => 0)), errPoint] | 3 => u = .agg (bcells (fun _ => 0)) | 4 => u = errPoint | 7 => u = errPoint | _ => True) (fun _ => none) (fun _ => none) [⟨some 5, 0, 22, some 6, fun cs => (Value.agg (List.toArray cs)) = .agg (bcells (fun _ => 0)), fun cs => (Value.agg (List.toArray cs)) = .agg (bcells (fun _ => 0))⟩] W5) plan_11_6 [(51, 0), (52, 1), (50, 2), (53, 3), (54, 4), (10, 5), (11, 7)] 81 rfl (by kernel_rfl) (InvN.of (Inv.start0 hok (by simp))) ⟨?_, ?_, ?_, ?_, ?_, ?_, ?_, ?_, trivial⟩ ?_
      · intro L v w hL hD hC hI
        refine ⟨fun _ => ?_, fun hw => by cases hw⟩
        refine hI.val0 hL (by simp) rfl rfl ?_
        rw [show readsOf plan_11_6 0 = [] from rfl]
        exact ld_P (R_raw.keep hI.inv.keep (by simp)) _ rfl rfl fun u hu => ⟨hu, Ext.refl _⟩
      · intro L v w hL hD hC hI
        refine ⟨fun _ => ?_, fun hw => by cases hw⟩
        have h0 : (v 0) = .agg (pc (rf) (rg)) := hI.inv.val 0 (hD 0 (by decide))
        refine hI.val0 hL (by simp) rfl rfl ?_
        rw [show readsOf plan_11_6 1 = [(51, 0)] from rfl]
        refine give_call _ _ _ _ rfl rfl Try.func54 (by kernel_rfl) (by kernel_rfl) ?_
        refine Calls.mono (calls_eq (enc_off hon w) (args' := #[v 0]) (by rw [h0])) ?_
        rintro e w' ⟨rfl, hx⟩
        exact ⟨_, rfl, rfl, hx⟩
      · intro L v w hL hD hC hI
        refine ⟨fun _ => ?_, fun hw => by cases hw⟩
        have h1 : (v 1) = .tuple #[.agg (bcells (fun _ => 0)), errPoint] := hI.inv.val 1 (hD 1 (by decide))
        refine hI.val0 hL (by simp) rfl rfl ?_
        rw [show readsOf plan_11_6 2 = [(52, 1)] from rfl]
        exact ⟨h1, Ext.refl _⟩
      · intro L v w hL hD hC hI
        refine ⟨fun _ => ?_, fun hw => by cases hw⟩
        have h2 : (v 2) = .tuple #[.agg (bcells (fun _ => 0)), errPoint] := hI.inv.val 2 (hD 2 (by decide))
        refine hI.val0 hL (by simp) rfl rfl ?_
        rw [show readsOf plan_11_6 3 = [(50, 2)] from rfl]
        exact give_ext _ _ _ rfl h2 _ rfl ⟨rfl, Ext.refl _⟩
      · intro L v w hL hD hC hI
        refine ⟨fun _ => ?_, fun hw => by cases hw⟩
        have h2 : (v 2) = .tuple #[.agg (bcells (fun _ => 0)), errPoint] := hI.inv.val 2 (hD 2 (by decide))
        refine hI.val0 hL (by simp) rfl rfl ?_
        rw [show readsOf plan_11_6 4 = [(50, 2)] from rfl]
        exact give_ext _ _ _ rfl h2 _ rfl ⟨rfl, Ext.refl _⟩
      · intro L v w hL hD hC hI
        refine ⟨fun _ => ?_, fun hw => by cases hw⟩
        refine InvN.alloc_step hok hI hL ⟨some 5, 0, 22, some 6, fun cs => (Value.agg (List.toArray cs)) = .agg (bcells (fun _ => 0)), fun cs => (Value.agg (List.toArray cs)) = .agg (bcells (fun _ => 0))⟩ (by simp) rfl (by simp) (by intro s hs; cases hs; exact not_yet hC hL (by decide)) rfl rfl ?_
        rw [show readsOf plan_11_6 5 = [] from rfl]
        go_simp
        first | exact ⟨rfl, pcL (fun _ => 0) (fun _ => 0), rfl, rfl⟩ | exact ⟨trivial, rfl, pcL (fun _ => 0) (fun _ => 0), rfl, rfl⟩ | exact ⟨rfl, (bcells fun _ => 0).toList, by rw [Array.toArray_toList], by rw [Array.toArray_toList]⟩
      · intro L v w hL hD hC hI
        refine ⟨fun _ => ?_, fun hw => by cases hw⟩
        have h3 : (v 3) = .agg (bcells (fun _ => 0)) := hI.inv.val 3 (hD 3 (by decide))
        refine InvN.store_step hok hI hL ⟨some 5, 0, 22, some 6, fun cs => (Value.agg (List.toArray cs)) = .agg (bcells (fun _ => 0)), fun cs => (Value.agg (List.toArray cs)) = .agg (bcells (fun _ => 0))⟩ (by simp) rfl (by simp) (by intro k hk; cases hk; exact hD 5 (by decide)) rfl rfl (fun cs h => by rw [bL_of h]; exact noI_b _) ?_
        intro n cs hb hR hold
        change v 5 = .pointer (some ⟨n, 0, none⟩) at hb
        rw [show readsOf plan_11_6 6 = [(53, 3), (10, 5)] from rfl]
        exact st_B hR (by rw [bL_of hold]; simp) _ _ rfl hb h3 fun w' cs' hr he hk => ⟨trivial, hk, cs', hr, he⟩
      · intro L v w hL hD hC hI
        refine ⟨fun _ => ?_, fun hw => by cases hw⟩
        have h4 : (v 4) = errPoint := hI.inv.val 4 (hD 4 (by decide))
        refine hI.val0 hL (by simp) rfl rfl ?_
        rw [show readsOf plan_11_6 7 = [(54, 4)] from rfl]
        exact ⟨h4, Ext.refl _⟩
      intro L v6 W6 hL hI
      obtain ⟨c, cs, hb_c, lo_c, hr, hn, ho⟩ := hI.inv.row_made ⟨some 5, 0, 22, some 6, fun cs => (Value.agg (List.toArray cs)) = .agg (bcells (fun _ => 0)), fun cs => (Value.agg (List.toArray cs)) = .agg (bcells (fun _ => 0))⟩ (by simp) 5 rfl (hL 5 (by decide))
      have R_c : RV W6 c 22 (fun u => u = .agg (bcells (fun _ => 0))) := ⟨cs, hr, hn 6 rfl (hL 6 (by decide))⟩
      clear hr hn ho
      replace R_raw := R_raw.keep hI.inv.keep (by simp)
      have hx' : Ext w W6 := hx.trans hI.inv.keep.to_ext
      have hs_11_6 : (v6 7) = errPoint := hI.inv.val 7 (hL 7 (by decide))
      clear hx hI hL hok L
      have hx := hx'
      clear hx'
      simp only [putP, Act.put, List.setIfInBounds_toArray, List.set_cons_zero, List.set_cons_succ, hb_c, hs_11_6]
      go_upto_region 7 with fail
      have hok : TrsOk [] W6.heap.size ([] : List Trk) := ⟨by simp, by simp, by simp, by simp⟩
      refine wp_region_text (InvN [] (fun j u => match j with | 0 => u = .agg (pc (rf) (rg)) | 1 => u = .bool (false) | 2 => u = .bool (false) | _ => True) (fun _ => none) (fun _ => none) [] W6) plan_11_7 [(55, 0), (56, 1), (12, 2)] 81 rfl (by kernel_rfl) (InvN.of (Inv.start0 hok (by simp))) ⟨?_, ?_, ?_, trivial⟩ ?_
      · intro L v w hL hD hC hI
        refine ⟨fun _ => ?_, fun hw => by cases hw⟩
        refine hI.val0 hL (by simp) rfl rfl ?_
        rw [show readsOf plan_11_7 0 = [] from rfl]
        exact ld_P (R_raw.keep hI.inv.keep (by simp)) _ rfl rfl fun u hu => ⟨hu, Ext.refl _⟩
      · intro L v w hL hD hC hI
        refine ⟨fun _ => ?_, fun hw => by cases hw⟩
        have h0 : (v 0) = .agg (pc (rf) (rg)) := hI.inv.val 0 (hD 0 (by decide))
        refine hI.val0 hL (by simp) rfl rfl ?_
        rw [show readsOf plan_11_7 1 = [(55, 0)] from rfl]
        refine give_call _ _ _ _ rfl rfl Try.func31 (by kernel_rfl) (by kernel_rfl) ?_
        refine Calls.mono (calls_eq (ris_f hon w) (args' := #[v 0]) (by rw [h0])) ?_
        rintro e w' ⟨rfl, hx⟩
        exact ⟨_, rfl, rfl, hx⟩
      · intro L v w hL hD hC hI
        refine ⟨fun _ => ?_, fun hw => by cases hw⟩
        have h1 : (v 1) = .bool (false) := hI.inv.val 1 (hD 1 (by decide))
        refine hI.val0 hL (by simp) rfl rfl ?_
        rw [show readsOf plan_11_7 2 = [(56, 1)] from rfl]
        exact ⟨h1, Ext.refl _⟩
      intro L v7 W7 hL hI
      replace R_raw := R_raw.keep hI.inv.keep (by simp)
      replace R_c := R_c.keep hI.inv.keep (by simp)
      have hx' : Ext w W7 := hx.trans hI.inv.keep.to_ext
      have hs_12_7 : (v7 2) = .bool (false) := hI.inv.val 2 (hL 2 (by decide))
      clear hx hI hL hok L
      have hx := hx'
      clear hx'
      simp only [putP, Act.put, List.setIfInBounds_toArray, List.set_cons_zero, List.set_cons_succ, hs_12_7]
      go_upto_region 8 with fail
      have hok : TrsOk [] W7.heap.size ([] : List Trk) := ⟨by simp, by simp, by simp, by simp⟩
      refine wp_region_text (InvN [] (fun j u => match j with | 0 => u = .bool (false) | 1 => u = .bool (true) | _ => True) (fun _ => none) (fun _ => none) [] W7) plan_11_8 [(57, 0), (58, 1)] 81 rfl (by kernel_rfl) (InvN.of (Inv.start0 hok (by simp))) ⟨?_, ?_, trivial⟩ ?_
      · intro L v w hL hD hC hI
        refine ⟨fun _ => ?_, fun hw => by cases hw⟩
        refine hI.val0 hL (by simp) rfl rfl ?_
        rw [show readsOf plan_11_8 0 = [] from rfl]
        first | exact ⟨rfl, Ext.refl _⟩ | (go_simp; exact ⟨rfl, Ext.refl _⟩)
      · intro L v w hL hD hC hI
        refine ⟨fun _ => ?_, fun hw => by cases hw⟩
        have h0 : (v 0) = .bool (false) := hI.inv.val 0 (hD 0 (by decide))
        refine hI.val0 hL (by simp) rfl rfl ?_
        rw [show readsOf plan_11_8 1 = [(57, 0)] from rfl]
        exact give_not _ _ rfl h0 ⟨rfl, Ext.refl _⟩
      intro L v8 W8 hL hI
      replace R_raw := R_raw.keep hI.inv.keep (by simp)
      replace R_c := R_c.keep hI.inv.keep (by simp)
      have hx' : Ext w W8 := hx.trans hI.inv.keep.to_ext
      have hs_57_8 : (v8 0) = .bool (false) := hI.inv.val 0 (hL 0 (by decide))
      have hs_58_8 : (v8 1) = .bool (true) := hI.inv.val 1 (hL 1 (by decide))
      clear hx hI hL hok L
      have hx := hx'
      clear hx'
      simp only [putP, Act.put, List.setIfInBounds_toArray, List.set_cons_zero, List.set_cons_succ, hs_57_8, hs_58_8]
      go_upto_region 9 with fail
      have hok : TrsOk [] W8.heap.size ([] : List Trk) := ⟨by simp, by simp, by simp, by simp⟩
      refine wp_region_plan (InvN [] (fun j u => match j with | 0 => u = .bool (true) | 1 => u = .bool (true) | 2 => u = errPoint | 3 => u = .iface 30 (.int .i64 29) | 4 => u = .bool (true) | 5 => u = .bool (true) | 6 => u = .bool (true) | 7 => u = .agg (bcells (fun _ => 0)) | 8 => u = .agg (bcells (fun _ => 0)) | 9 => u = .bool (true) | 10 => u = .bool (true) | 11 => u = .bool (true) | _ => True) (fun _ => none) (fun _ => none) [] W8) plan_11_9 [(59, 0), (60, 1), (61, 2), (62, 3), (63, 4), (64, 5), (65, 6), (66, 7), (67, 8), (68, 9), (69, 10), (4, 11)] 81 (by kernel_rfl) rfl (by kernel_rfl) (InvN.of (Inv.start hok (by simp))) ⟨?_, ?_, ?_, ?_, ?_, ?_, ?_, ?_, ?_, ?_, ?_, ?_, trivial⟩ ?_
      · intro L v w hL hD hC hI
        refine ⟨fun _ => ?_, fun hw => by cases hw⟩
        refine hI.val0 hL (by simp) rfl rfl ?_
        rw [show readsOf plan_11_9 0 = [] from rfl]
        first | exact ⟨rfl, Ext.refl _⟩ | (go_simp; exact ⟨rfl, Ext.refl _⟩)
      · intro L v w hL hD hC hI
        refine ⟨fun _ => ?_, fun hw => by cases hw⟩
        have h0 : (v 0) = .bool (true) := hI.inv.val 0 (hD 0 (by decide))
        refine hI.val0 hL (by simp) rfl rfl ?_
        rw [show readsOf plan_11_9 1 = [(59, 0)] from rfl]
        exact ⟨h0, Ext.refl _⟩
      · intro L v w hL hD hC hI
        have hg : v 1 = .bool true := hI.inv.val 1 (hD 1 (by decide))
        refine ⟨fun _ => ?_, fun hw => by simp [wantedV, hg] at hw⟩
        have h1 : (v 1) = .bool (true) := hI.inv.val 1 (hD 1 (by decide))
        refine hI.val0 hL (by simp) rfl rfl ?_
        rw [show readsOf plan_11_9 2 = [(60, 1)] from rfl]
        first | exact ⟨rfl, Ext.refl _⟩ | (go_simp; exact ⟨rfl, Ext.refl _⟩)
      · intro L v w hL hD hC hI
        have hg : v 1 = .bool true := hI.inv.val 1 (hD 1 (by decide))
        refine ⟨fun _ => ?_, fun hw => by simp [wantedV, hg] at hw⟩
        have h1 : (v 1) = .bool (true) := hI.inv.val 1 (hD 1 (by decide))
        refine hI.val0 hL (by simp) rfl rfl ?_
        rw [show readsOf plan_11_9 3 = [(60, 1)] from rfl]
        go_simp
        exact ⟨rfl, Ext.refl _⟩
      · intro L v w hL hD hC hI
        have hg : v 1 = .bool true := hI.inv.val 1 (hD 1 (by decide))
        refine ⟨fun _ => ?_, fun hw => by simp [wantedV, hg] at hw⟩
        have h1 : (v 1) = .bool (true) := hI.inv.val 1 (hD 1 (by decide))
        have h2 : (v 2) = errPoint := hI.inv.val 2 (hD 2 (by decide))
        have h3 : (v 3) = .iface 30 (.int .i64 29) := hI.inv.val 3 (hD 3 (by decide))
        refine hI.val0 hL (by simp) rfl rfl ?_
        rw [show readsOf plan_11_9 4 = [(60, 1), (61, 2), (62, 3)] from rfl]
        exact give_errEq _ _ _ rfl h2 h3 ⟨rfl, Ext.refl _⟩
      · intro L v w hL hD hC hI
        refine ⟨fun _ => ?_, fun hw => by cases hw⟩
        have h1 : (v 1) = .bool (true) := hI.inv.val 1 (hD 1 (by decide))
        have h4 : (v 4) = .bool (true) := hI.inv.val 4 (hD 4 (by decide))
        refine hI.val0 hL (by simp) rfl rfl ?_
        rw [show readsOf plan_11_9 5 = [(60, 1), (63, 4)] from rfl]
        exact give_pick_t _ _ _ rfl h1 ⟨h4, Ext.refl _⟩
      · intro L v w hL hD hC hI
        refine ⟨fun _ => ?_, fun hw => by cases hw⟩
        have h5 : (v 5) = .bool (true) := hI.inv.val 5 (hD 5 (by decide))
        refine hI.val0 hL (by simp) rfl rfl ?_
        rw [show readsOf plan_11_9 6 = [(64, 5)] from rfl]
        exact ⟨h5, Ext.refl _⟩
      · intro L v w hL hD hC hI
        have hg : v 6 = .bool true := hI.inv.val 6 (hD 6 (by decide))
        refine ⟨fun _ => ?_, fun hw => by simp [wantedV, hg] at hw⟩
        have h6 : (v 6) = .bool (true) := hI.inv.val 6 (hD 6 (by decide))
        refine hI.val0 hL (by simp) rfl rfl ?_
        rw [show readsOf plan_11_9 7 = [(65, 6)] from rfl]
        exact ld_B (R_c.keep hI.inv.keep (by simp)) _ rfl rfl fun u hu => ⟨hu, Ext.refl _⟩
      · intro L v w hL hD hC hI
        have hg : v 6 = .bool true := hI.inv.val 6 (hD 6 (by decide))
        refine ⟨fun _ => ?_, fun hw => by simp [wantedV, hg] at hw⟩
        have h6 : (v 6) = .bool (true) := hI.inv.val 6 (hD 6 (by decide))
        refine hI.val0 hL (by simp) rfl rfl ?_
        rw [show readsOf plan_11_9 8 = [(65, 6)] from rfl]
        refine give_call _ _ _ _ rfl rfl Try.func40 (by kernel_rfl) (by kernel_rfl) ?_
        refine Calls.mono (by have := sm7_0 w; rw [nb_zero] at this; exact this) ?_
        rintro e w' ⟨rfl, hx⟩
        exact ⟨_, rfl, rfl, hx⟩
      · intro L v w hL hD hC hI
        have hg : v 6 = .bool true := hI.inv.val 6 (hD 6 (by decide))
        refine ⟨fun _ => ?_, fun hw => by simp [wantedV, hg] at hw⟩
        have h6 : (v 6) = .bool (true) := hI.inv.val 6 (hD 6 (by decide))
        have h7 : (v 7) = .agg (bcells (fun _ => 0)) := hI.inv.val 7 (hD 7 (by decide))
        have h8 : (v 8) = .agg (bcells (fun _ => 0)) := hI.inv.val 8 (hD 8 (by decide))
        refine hI.val0 hL (by simp) rfl rfl ?_
        rw [show readsOf plan_11_9 9 = [(65, 6), (66, 7), (67, 8)] from rfl]
        simp only [putP, Act.put, List.setIfInBounds_toArray, List.set_cons_zero, List.set_cons_succ, h7, h8]
        go_simp
        exact ⟨by simp [beqb_self], Ext.refl _⟩
      · intro L v w hL hD hC hI
        refine ⟨fun _ => ?_, fun hw => by cases hw⟩
        have h6 : (v 6) = .bool (true) := hI.inv.val 6 (hD 6 (by decide))
        have h9 : (v 9) = .bool (true) := hI.inv.val 9 (hD 9 (by decide))
        refine hI.val0 hL (by simp) rfl rfl ?_
        rw [show readsOf plan_11_9 10 = [(65, 6), (68, 9)] from rfl]
        exact give_pick_t _ _ _ rfl h6 ⟨h9, Ext.refl _⟩
      · intro L v w hL hD hC hI
        refine ⟨fun _ => ?_, fun hw => by cases hw⟩
        have h10 : (v 10) = .bool (true) := hI.inv.val 10 (hD 10 (by decide))
        refine hI.val0 hL (by simp) rfl rfl ?_
        rw [show readsOf plan_11_9 11 = [(69, 10)] from rfl]
        exact ⟨h10, Ext.refl _⟩
      intro L v9 W9 hL hI
      replace R_raw := R_raw.keep hI.inv.keep (by simp)
      replace R_c := R_c.keep hI.inv.keep (by simp)
      have hx' : Ext w W9 := hx.trans hI.inv.keep.to_ext
      have hs_59_9 : (v9 0) = .bool (true) := hI.inv.val 0 (hL 0 (by decide))
      have hs_60_9 : (v9 1) = .bool (true) := hI.inv.val 1 (hL 1 (by decide))
      have hs_61_9 : (v9 2) = errPoint := hI.inv.val 2 (hL 2 (by decide))
      have hs_65_9 : (v9 6) = .bool (true) := hI.inv.val 6 (hL 6 (by decide))
      have hs_4_9 : (v9 11) = .bool (true) := hI.inv.val 11 (hL 11 (by decide))
      clear hx hI hL hok L
      have hx := hx'
      clear hx'
      simp only [putP, Act.put, List.setIfInBounds_toArray, List.set_cons_zero, List.set_cons_succ, hs_59_9, hs_60_9, hs_61_9, hs_65_9, hs_4_9]
      go_wp2
      go_ret
      exact ⟨rfl, hx⟩
end Go.Proofs.Ytndohjgfjbopnaa
