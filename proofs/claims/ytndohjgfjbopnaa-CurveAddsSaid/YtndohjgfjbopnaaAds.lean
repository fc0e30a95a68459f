/-
  The walk of the statement CurveAdds.
-/
import Derived.Test.YtndohjgfjbopnaaCom
set_option linter.unusedSimpArgs false
set_option linter.unusedVariables false
namespace Go.Proofs.Ytndohjgfjbopnaa
open Go.RowKit Go.Cv Go.Cv.Pr Go.Cv.Grp
def plan_9_0 : List Plan := [⟨[], []⟩, ⟨[], []⟩, ⟨[], []⟩, ⟨[], []⟩]
def plan_9_1 : List Plan := [⟨[], []⟩, ⟨[0], [(25, 0)]⟩]
def plan_9_2 : List Plan := [⟨[], []⟩, ⟨[0], [(27, 0)]⟩, ⟨[0, 1], [(28, 1)]⟩, ⟨[0, 1, 2], [(26, 2)]⟩, ⟨[0, 1, 2], [(26, 2)]⟩, ⟨[], []⟩, ⟨[0, 1, 2, 3, 5], [(29, 3), (8, 5)]⟩, ⟨[0, 1, 2, 3, 4, 5, 6], [(30, 4)]⟩]
def plan_9_3 : List Plan := [⟨[], []⟩, ⟨[0], [(32, 0)]⟩, ⟨[0, 1], [(33, 1)]⟩, ⟨[0, 1, 2], [(31, 2)]⟩, ⟨[0, 1, 2], [(31, 2)]⟩, ⟨[], []⟩, ⟨[0, 1, 2, 3, 5], [(34, 3), (10, 5)]⟩, ⟨[0, 1, 2, 3, 4, 5, 6], [(35, 4)]⟩]
def plan_9_4 : List Plan := [⟨[], []⟩, ⟨[0], [(36, 0)]⟩, ⟨[0, 1], [(37, 1)]⟩, ⟨[0, 1, 2], [(38, 2)]⟩, ⟨[0, 1, 2, 3], [(38, 2), (39, 3)]⟩, ⟨[0, 1, 2, 3, 4], [(38, 2), (40, 4)]⟩]
def plan_9_6 : List Plan := [⟨[], []⟩, ⟨[0], [(42, 0)]⟩]
def plan_9_7 : List Plan := [⟨[], []⟩, ⟨[], []⟩, ⟨[0, 1], [(44, 0), (45, 1)]⟩, ⟨[0, 1, 2], [(46, 2)]⟩, ⟨[0, 1, 2, 3], [(43, 3)]⟩, ⟨[0, 1, 2, 3], [(43, 3)]⟩, ⟨[], []⟩, ⟨[0, 1, 2, 3, 4, 6], [(47, 4), (13, 6)]⟩, ⟨[0, 1, 2, 3, 4, 5, 6, 7], [(48, 5)]⟩]
def plan_9_8 : List Plan := [⟨[], []⟩, ⟨[0], [(50, 0)]⟩, ⟨[0, 1], [(51, 1)]⟩, ⟨[0, 1, 2], [(49, 2)]⟩, ⟨[0, 1, 2], [(49, 2)]⟩, ⟨[], []⟩, ⟨[0, 1, 2, 3, 5], [(52, 3), (15, 5)]⟩, ⟨[0, 1, 2, 3, 4, 5, 6], [(53, 4)]⟩]
def plan_9_9 : List Plan := [⟨[], []⟩, ⟨[0], [(54, 0)]⟩, ⟨[0, 1], [(55, 1)]⟩, ⟨[0, 1, 2], [(56, 2)]⟩, ⟨[0, 1, 2, 3], [(56, 2), (57, 3)]⟩, ⟨[0, 1, 2, 3, 4], [(56, 2), (58, 4)]⟩, ⟨[0, 1, 2, 3, 4, 5], [(59, 5)]⟩, ⟨[0, 1, 2, 3, 4, 5, 6], [(60, 6)]⟩, ⟨[0, 1, 2, 3, 4, 5, 6], [(60, 6)]⟩, ⟨[0, 1, 2, 3, 4, 5, 6, 8], [(60, 6), (62, 8)]⟩, ⟨[0, 1, 2, 3, 4, 5, 6], [(60, 6)]⟩, ⟨[0, 1, 2, 3, 4, 5, 6, 8, 9, 10], [(60, 6), (64, 10)]⟩, ⟨[0, 1, 2, 3, 4, 5, 6], [(60, 6)]⟩, ⟨[0, 1, 2, 3, 4, 5, 6, 8, 9, 10, 11, 12], [(60, 6), (63, 9), (65, 11), (66, 12)]⟩, ⟨[0, 1, 2, 3, 4, 5, 6, 8, 9, 10, 11, 12, 13], [(60, 6), (67, 13)]⟩, ⟨[0, 1, 2, 3, 4, 5, 6, 7, 8, 9, 10, 11, 12, 13, 14], [(60, 6), (61, 7), (68, 14)]⟩, ⟨[0, 1, 2, 3, 4, 5, 6, 7, 8, 9, 10, 11, 12, 13, 14, 15], [(60, 6), (69, 15)]⟩, ⟨[0, 1, 2, 3, 4, 5, 6, 7, 8, 9, 10, 11, 12, 13, 14, 15, 16], [(70, 16)]⟩, ⟨[0, 1, 2, 3, 4, 5, 6, 7, 8, 9, 10, 11, 12, 13, 14, 15, 16, 17], [(71, 17)]⟩, ⟨[0, 1, 2, 3, 4, 5, 6, 7, 8, 9, 10, 11, 12, 13, 14, 15, 16, 17], [(71, 17)]⟩, ⟨[0, 1, 2, 3, 4, 5, 6, 7, 8, 9, 10, 11, 12, 13, 14, 15, 16, 17, 19], [(71, 17), (73, 19)]⟩, ⟨[0, 1, 2, 3, 4, 5, 6, 7, 8, 9, 10, 11, 12, 13, 14, 15, 16, 17, 18, 19, 20], [(71, 17), (72, 18), (74, 20)]⟩, ⟨[0, 1, 2, 3, 4, 5, 6, 7, 8, 9, 10, 11, 12, 13, 14, 15, 16, 17, 18, 19, 20, 21], [(71, 17), (75, 21)]⟩]
def plan_9_11 : List Plan := [⟨[], []⟩, ⟨[0], [(77, 0)]⟩, ⟨[0, 1], [(78, 1)]⟩]
def plan_9_12 : List Plan := [⟨[], []⟩, ⟨[], []⟩, ⟨[0, 1], [(80, 0), (81, 1)]⟩, ⟨[0, 1, 2], [(82, 2)]⟩, ⟨[0, 1, 2, 3], [(79, 3)]⟩, ⟨[0, 1, 2, 3], [(79, 3)]⟩, ⟨[], []⟩, ⟨[0, 1, 2, 3, 4, 6], [(83, 4), (18, 6)]⟩, ⟨[0, 1, 2, 3, 4, 5, 6, 7], [(84, 5)]⟩]
def plan_9_13 : List Plan := [⟨[], []⟩, ⟨[], []⟩, ⟨[0, 1], [(86, 0), (87, 1)]⟩, ⟨[0, 1, 2], [(88, 2)]⟩, ⟨[0, 1, 2, 3], [(85, 3)]⟩, ⟨[0, 1, 2, 3], [(85, 3)]⟩, ⟨[], []⟩, ⟨[0, 1, 2, 3, 4, 6], [(89, 4), (20, 6)]⟩, ⟨[0, 1, 2, 3, 4, 5, 6, 7], [(90, 5)]⟩]
def plan_9_14 : List Plan := [⟨[], []⟩, ⟨[0], [(92, 0)]⟩, ⟨[0, 1], [(93, 1)]⟩, ⟨[0, 1, 2], [(91, 2)]⟩, ⟨[0, 1, 2], [(91, 2)]⟩, ⟨[], []⟩, ⟨[0, 1, 2, 3, 5], [(94, 3), (22, 5)]⟩, ⟨[0, 1, 2, 3, 4, 5, 6], [(95, 4)]⟩]
def plan_9_15 : List Plan := [⟨[], []⟩, ⟨[0], [(96, 0)]⟩]
def plan_9_17 : List Plan := [⟨[], []⟩, ⟨[0], [(129, 0)]⟩, ⟨[], []⟩, ⟨[0, 1, 2], [(131, 2)]⟩, ⟨[], []⟩, ⟨[0, 1, 2, 3, 4], [(130, 1), (132, 3), (133, 4)]⟩, ⟨[0, 1, 2, 3, 4, 5], [(134, 5)]⟩, ⟨[], []⟩, ⟨[0, 1, 2, 3, 4, 5, 6, 7], [(135, 6), (24, 7)]⟩]
def plan_9_18 : List Plan := [⟨[], []⟩, ⟨[0], [(136, 0)]⟩, ⟨[0, 1], [(137, 1)]⟩, ⟨[0, 1, 2], [(137, 1), (138, 2)]⟩, ⟨[0, 1, 2, 3], [(137, 1), (139, 3)]⟩, ⟨[0, 1, 2, 3, 4], [(140, 4)]⟩, ⟨[0, 1, 2, 3, 4, 5], [(141, 5)]⟩, ⟨[0, 1, 2, 3, 4, 5, 6], [(141, 5), (142, 6)]⟩, ⟨[0, 1, 2, 3, 4, 5, 6, 7], [(141, 5), (143, 7)]⟩, ⟨[0, 1, 2, 3, 4, 5, 6, 7, 8], [(144, 8)]⟩, ⟨[0, 1, 2, 3, 4, 5, 6, 7, 8, 9], [(145, 9)]⟩, ⟨[0, 1, 2, 3, 4, 5, 6, 7, 8, 9, 10], [(145, 9), (146, 10)]⟩, ⟨[0, 1, 2, 3, 4, 5, 6, 7, 8, 9, 10, 11], [(145, 9), (147, 11)]⟩, ⟨[0, 1, 2, 3, 4, 5, 6, 7, 8, 9, 10, 11, 12], [(148, 12)]⟩, ⟨[0, 1, 2, 3, 4, 5, 6, 7, 8, 9, 10, 11, 12, 13], [(149, 13)]⟩, ⟨[0, 1, 2, 3, 4, 5, 6, 7, 8, 9, 10, 11, 12, 13], [(149, 13)]⟩, ⟨[0, 1, 2, 3, 4, 5, 6, 7, 8, 9, 10, 11, 12, 13, 14, 15], [(149, 13), (150, 14), (151, 15)]⟩, ⟨[0, 1, 2, 3, 4, 5, 6, 7, 8, 9, 10, 11, 12, 13, 14, 15, 16], [(149, 13), (152, 16)]⟩, ⟨[0, 1, 2, 3, 4, 5, 6, 7, 8, 9, 10, 11, 12, 13, 14, 15, 16, 17], [(153, 17)]⟩, ⟨[0, 1, 2, 3, 4, 5, 6, 7, 8, 9, 10, 11, 12, 13, 14, 15, 16, 17, 18], [(154, 18)]⟩, ⟨[0, 1, 2, 3, 4, 5, 6, 7, 8, 9, 10, 11, 12, 13, 14, 15, 16, 17, 18], [(154, 18)]⟩, ⟨[0, 1, 2, 3, 4, 5, 6, 7, 8, 9, 10, 11, 12, 13, 14, 15, 16, 17, 18, 19, 20], [(154, 18), (155, 19), (156, 20)]⟩, ⟨[0, 1, 2, 3, 4, 5, 6, 7, 8, 9, 10, 11, 12, 13, 14, 15, 16, 17, 18, 19, 20, 21], [(154, 18), (157, 21)]⟩, ⟨[0, 1, 2, 3, 4, 5, 6, 7, 8, 9, 10, 11, 12, 13, 14, 15, 16, 17, 18, 19, 20, 21, 22], [(158, 22)]⟩, ⟨[0, 1, 2, 3, 4, 5, 6, 7, 8, 9, 10, 11, 12, 13, 14, 15, 16, 17, 18, 19, 20, 21, 22, 23], [(159, 23)]⟩, ⟨[0, 1, 2, 3, 4, 5, 6, 7, 8, 9, 10, 11, 12, 13, 14, 15, 16, 17, 18, 19, 20, 21, 22, 23], [(159, 23)]⟩, ⟨[0, 1, 2, 3, 4, 5, 6, 7, 8, 9, 10, 11, 12, 13, 14, 15, 16, 17, 18, 19, 20, 21, 22, 23, 25], [(159, 23), (161, 25)]⟩, ⟨[0, 1, 2, 3, 4, 5, 6, 7, 8, 9, 10, 11, 12, 13, 14, 15, 16, 17, 18, 19, 20, 21, 22, 23, 24, 25, 26], [(159, 23), (160, 24), (162, 26)]⟩, ⟨[0, 1, 2, 3, 4, 5, 6, 7, 8, 9, 10, 11, 12, 13, 14, 15, 16, 17, 18, 19, 20, 21, 22, 23, 24, 25, 26, 27], [(159, 23), (163, 27)]⟩, ⟨[0, 1, 2, 3, 4, 5, 6, 7, 8, 9, 10, 11, 12, 13, 14, 15, 16, 17, 18, 19, 20, 21, 22, 23, 24, 25, 26, 27, 28], [(164, 28)]⟩]
def plan_9_16 : List Plan := [⟨[], []⟩, ⟨[0], [(98, 0)]⟩, ⟨[0, 1], [(99, 1)]⟩, ⟨[0, 1], [(99, 1)]⟩, ⟨[0, 1, 2, 3], [(99, 1), (100, 2), (101, 3)]⟩, ⟨[0, 1, 2, 3, 4], [(99, 1), (102, 4)]⟩, ⟨[0, 1, 2, 3, 4, 5], [(103, 5)]⟩, ⟨[0, 1, 2, 3, 4, 5, 6], [(104, 6)]⟩, ⟨[0, 1, 2, 3, 4, 5, 6], [(104, 6)]⟩, ⟨[0, 1, 2, 3, 4, 5, 6, 7, 8], [(104, 6), (105, 7), (106, 8)]⟩, ⟨[0, 1, 2, 3, 4, 5, 6, 7, 8, 9], [(104, 6), (107, 9)]⟩, ⟨[0, 1, 2, 3, 4, 5, 6, 7, 8, 9, 10], [(108, 10)]⟩, ⟨[0, 1, 2, 3, 4, 5, 6, 7, 8, 9, 10, 11], [(109, 11)]⟩, ⟨[0, 1, 2, 3, 4, 5, 6, 7, 8, 9, 10, 11], [(109, 11)]⟩, ⟨[0, 1, 2, 3, 4, 5, 6, 7, 8, 9, 10, 11, 12, 13], [(109, 11), (110, 12), (111, 13)]⟩, ⟨[0, 1, 2, 3, 4, 5, 6, 7, 8, 9, 10, 11, 12, 13, 14], [(109, 11), (112, 14)]⟩, ⟨[0, 1, 2, 3, 4, 5, 6, 7, 8, 9, 10, 11, 12, 13, 14, 15], [(113, 15)]⟩, ⟨[0, 1, 2, 3, 4, 5, 6, 7, 8, 9, 10, 11, 12, 13, 14, 15, 16], [(114, 16)]⟩, ⟨[0, 1, 2, 3, 4, 5, 6, 7, 8, 9, 10, 11, 12, 13, 14, 15, 16], [(114, 16)]⟩, ⟨[0, 1, 2, 3, 4, 5, 6, 7, 8, 9, 10, 11, 12, 13, 14, 15, 16, 17, 18], [(114, 16), (115, 17), (116, 18)]⟩, ⟨[0, 1, 2, 3, 4, 5, 6, 7, 8, 9, 10, 11, 12, 13, 14, 15, 16, 17, 18, 19], [(114, 16), (117, 19)]⟩, ⟨[0, 1, 2, 3, 4, 5, 6, 7, 8, 9, 10, 11, 12, 13, 14, 15, 16, 17, 18, 19, 20], [(118, 20)]⟩, ⟨[0, 1, 2, 3, 4, 5, 6, 7, 8, 9, 10, 11, 12, 13, 14, 15, 16, 17, 18, 19, 20, 21], [(119, 21)]⟩, ⟨[0, 1, 2, 3, 4, 5, 6, 7, 8, 9, 10, 11, 12, 13, 14, 15, 16, 17, 18, 19, 20, 21], [(119, 21)]⟩, ⟨[0, 1, 2, 3, 4, 5, 6, 7, 8, 9, 10, 11, 12, 13, 14, 15, 16, 17, 18, 19, 20, 21, 22, 23], [(119, 21), (120, 22), (121, 23)]⟩, ⟨[0, 1, 2, 3, 4, 5, 6, 7, 8, 9, 10, 11, 12, 13, 14, 15, 16, 17, 18, 19, 20, 21, 22, 23, 24], [(119, 21), (122, 24)]⟩, ⟨[0, 1, 2, 3, 4, 5, 6, 7, 8, 9, 10, 11, 12, 13, 14, 15, 16, 17, 18, 19, 20, 21, 22, 23, 24, 25], [(123, 25)]⟩, ⟨[0, 1, 2, 3, 4, 5, 6, 7, 8, 9, 10, 11, 12, 13, 14, 15, 16, 17, 18, 19, 20, 21, 22, 23, 24, 25, 26], [(124, 26)]⟩, ⟨[0, 1, 2, 3, 4, 5, 6, 7, 8, 9, 10, 11, 12, 13, 14, 15, 16, 17, 18, 19, 20, 21, 22, 23, 24, 25, 26], [(124, 26)]⟩, ⟨[0, 1, 2, 3, 4, 5, 6, 7, 8, 9, 10, 11, 12, 13, 14, 15, 16, 17, 18, 19, 20, 21, 22, 23, 24, 25, 26, 27, 28], [(124, 26), (125, 27), (126, 28)]⟩, ⟨[0, 1, 2, 3, 4, 5, 6, 7, 8, 9, 10, 11, 12, 13, 14, 15, 16, 17, 18, 19, 20, 21, 22, 23, 24, 25, 26, 27, 28, 29], [(124, 26), (127, 29)]⟩, ⟨[0, 1, 2, 3, 4, 5, 6, 7, 8, 9, 10, 11, 12, 13, 14, 15, 16, 17, 18, 19, 20, 21, 22, 23, 24, 25, 26, 27, 28, 29, 30], [(128, 30)]⟩]
set_option maxRecDepth 20000 in
set_option maxHeartbeats 40000000 in
theorem adds_any (f1 f2 rf rg : Nat → UInt8) (w : World) :
    Calls Try.prog 9 #[.agg (bcells f1), .agg (bcells f2), .agg (pc rf rg)] w fun e w' => e = .returned (.bool true) ∧ Ext w w' := by
  obtain ⟨P, hPe⟩ : ∃ P, P = someP f1 := ⟨_, rfl⟩
  have hP := some_any f1
  rw [← hPe] at hP
  clear hPe
  obtain ⟨Q, hQe⟩ : ∃ Q, Q = someP f2 := ⟨_, rfl⟩
  have hQ := some_any f2
  rw [← hQe] at hQ
  clear hQe
  go_enter Try.func9, Try.ntmps9
  have hx : Ext w w := Ext.refl w
  go_upto_region 0 with fail
  have hok : TrsOk [] w.heap.size ([⟨some 0, 0, 22, none, fun cs => (Value.agg (List.toArray cs)) = .agg (bcells (f1)), fun _ => True⟩, ⟨some 1, 0, 22, none, fun cs => (Value.agg (List.toArray cs)) = .agg (bcells (f2)), fun _ => True⟩, ⟨some 2, 0, 43, none, fun cs => (Value.agg (List.toArray cs)) = .agg (pc (rf) (rg)), fun _ => True⟩] : List Trk) := ⟨by simp, by simp, by simp, by simp⟩
  refine wp_region_text (InvN [] (fun j u => match j with | 3 => u = .bool false | _ => True) (fun _ => none) (fun _ => none) [⟨some 0, 0, 22, none, fun cs => (Value.agg (List.toArray cs)) = .agg (bcells (f1)), fun _ => True⟩, ⟨some 1, 0, 22, none, fun cs => (Value.agg (List.toArray cs)) = .agg (bcells (f2)), fun _ => True⟩, ⟨some 2, 0, 43, none, fun cs => (Value.agg (List.toArray cs)) = .agg (pc (rf) (rg)), fun _ => True⟩] w) plan_9_0 [(3, 0), (4, 1), (5, 2), (6, 3)] 165 rfl (by kernel_rfl) (InvN.of (Inv.start0 hok (by simp))) ⟨?_, ?_, ?_, ?_, trivial⟩ ?_
  · intro L v w hL hD hC hI
    refine ⟨fun _ => ?_, fun hw => by cases hw⟩
    refine InvN.alloc_step hok hI hL ⟨some 0, 0, 22, none, fun cs => (Value.agg (List.toArray cs)) = .agg (bcells (f1)), fun _ => True⟩ (by simp) rfl (by simp) (by intro s hs; cases hs) rfl rfl ?_
    rw [show readsOf plan_9_0 0 = [] from rfl]
    exact ⟨trivial, rfl, (bcells f1).toList, by first | rfl | (rw [Array.toArray_toList]; rfl), by show (Value.agg _ = Value.agg _); rw [Array.toArray_toList]⟩
  · intro L v w hL hD hC hI
    refine ⟨fun _ => ?_, fun hw => by cases hw⟩
    refine InvN.alloc_step hok hI hL ⟨some 1, 0, 22, none, fun cs => (Value.agg (List.toArray cs)) = .agg (bcells (f2)), fun _ => True⟩ (by simp) rfl (by simp) (by intro s hs; cases hs) rfl rfl ?_
    rw [show readsOf plan_9_0 1 = [] from rfl]
    exact ⟨trivial, rfl, (bcells f2).toList, by first | rfl | (rw [Array.toArray_toList]; rfl), by show (Value.agg _ = Value.agg _); rw [Array.toArray_toList]⟩
  · intro L v w hL hD hC hI
    refine ⟨fun _ => ?_, fun hw => by cases hw⟩
    refine InvN.alloc_step hok hI hL ⟨some 2, 0, 43, none, fun cs => (Value.agg (List.toArray cs)) = .agg (pc (rf) (rg)), fun _ => True⟩ (by simp) rfl (by simp) (by intro s hs; cases hs) rfl rfl ?_
    rw [show readsOf plan_9_0 2 = [] from rfl]
    exact ⟨trivial, rfl, pcL rf rg, rfl, by show (Value.agg _ = Value.agg _); rfl⟩
  · intro L v w hL hD hC hI
    refine ⟨fun _ => ?_, fun hw => by cases hw⟩
    refine hI.val0 hL (by simp) rfl rfl ?_
    rw [show readsOf plan_9_0 3 = [] from rfl]
    first | exact ⟨rfl, Ext.refl _⟩ | (go_simp; exact ⟨rfl, Ext.refl _⟩)
  intro L v1 W1 hL hI
  obtain ⟨k1, cs, hb_k1, lo_k1, hr, hn, ho⟩ := hI.inv.row_made ⟨some 0, 0, 22, none, fun cs => (Value.agg (List.toArray cs)) = .agg (bcells (f1)), fun _ => True⟩ (by simp) 0 rfl (hL 0 (by decide))
  have R_k1 : RV W1 k1 22 (fun u => u = .agg (bcells (f1))) := ⟨cs, hr, ho (by intro s hs; cases hs)⟩
  clear hr hn ho
  obtain ⟨k2, cs, hb_k2, lo_k2, hr, hn, ho⟩ := hI.inv.row_made ⟨some 1, 0, 22, none, fun cs => (Value.agg (List.toArray cs)) = .agg (bcells (f2)), fun _ => True⟩ (by simp) 1 rfl (hL 1 (by decide))
  have R_k2 : RV W1 k2 22 (fun u => u = .agg (bcells (f2))) := ⟨cs, hr, ho (by intro s hs; cases hs)⟩
  clear hr hn ho
  obtain ⟨raw, cs, hb_raw, lo_raw, hr, hn, ho⟩ := hI.inv.row_made ⟨some 2, 0, 43, none, fun cs => (Value.agg (List.toArray cs)) = .agg (pc (rf) (rg)), fun _ => True⟩ (by simp) 2 rfl (hL 2 (by decide))
  have R_raw : RV W1 raw 43 (fun u => u = .agg (pc (rf) (rg))) := ⟨cs, hr, ho (by intro s hs; cases hs)⟩
  clear hr hn ho
  have hx' : Ext w W1 := hx.trans hI.inv.keep.to_ext
  have hs_6_0 : (v1 3) = .bool false := hI.inv.val 3 (hL 3 (by decide))
  clear hx hI hL hok L
  have hx := hx'
  clear hx'
  simp only [putP, Act.put, List.setIfInBounds_toArray, List.set_cons_zero, List.set_cons_succ, hb_k1, hb_k2, hb_raw, hs_6_0]
  go_upto_region 1 with fail
  have hok : TrsOk [] W1.heap.size ([] : List Trk) := ⟨by simp, by simp, by simp, by simp⟩
  refine wp_region_text (InvN [] (fun j u => match j with | 0 => u = .bool (true) | 1 => u = .bool (true) | _ => True) (fun _ => none) (fun _ => none) [] W1) plan_9_1 [(25, 0), (7, 1)] 165 rfl (by kernel_rfl) (InvN.of (Inv.start0 hok (by simp))) ⟨?_, ?_, trivial⟩ ?_
  · intro L v w hL hD hC hI
    refine ⟨fun _ => ?_, fun hw => by cases hw⟩
    refine hI.val0 hL (by simp) rfl rfl ?_
    rw [show readsOf plan_9_1 0 = [] from rfl]
    refine give_call _ _ _ _ rfl rfl Try.func28 (by kernel_rfl) (by kernel_rfl) ?_
    refine Calls.mono (shown7_any w) ?_
    rintro e w' ⟨rfl, hx⟩
    exact ⟨_, rfl, rfl, hx⟩
  · intro L v w hL hD hC hI
    refine ⟨fun _ => ?_, fun hw => by cases hw⟩
    have h0 : (v 0) = .bool (true) := hI.inv.val 0 (hD 0 (by decide))
    refine hI.val0 hL (by simp) rfl rfl ?_
    rw [show readsOf plan_9_1 1 = [(25, 0)] from rfl]
    exact ⟨h0, Ext.refl _⟩
  intro L v2 W2 hL hI
  replace R_k1 := R_k1.keep hI.inv.keep (by simp)
  replace R_k2 := R_k2.keep hI.inv.keep (by simp)
  replace R_raw := R_raw.keep hI.inv.keep (by simp)
  have hx' : Ext w W2 := hx.trans hI.inv.keep.to_ext
  have hs_7_1 : (v2 1) = .bool (true) := hI.inv.val 1 (hL 1 (by decide))
  clear hx hI hL hok L
  have hx := hx'
  clear hx'
  simp only [putP, Act.put, List.setIfInBounds_toArray, List.set_cons_zero, List.set_cons_succ, hs_7_1]
  go_upto_region 2 with fail
  have hok : TrsOk [] W2.heap.size ([⟨some 5, 0, 43, some 6, fun cs => (Value.agg (List.toArray cs)) = .agg (pc (fun _ => 0) (fun _ => 0)), fun cs => (Value.agg (List.toArray cs)) = .agg (pc (fb (P).x) (fb (P).y))⟩] : List Trk) := ⟨by simp, by simp, by simp, by simp⟩
  refine wp_region_text (InvN [] (fun j u => match j with | 0 => u = .agg (bcells (f1)) | 1 => u = .tuple #[.agg (pc (fb (P).x) (fb (P).y)), .bool (true)] | 2 => u = .tuple #[.agg (pc (fb (P).x) (fb (P).y)), .bool (true)] | 3 => u = .agg (pc (fb (P).x) (fb (P).y)) | 4 => u = .bool (true) | 7 => u = .bool (true) | _ => True) (fun _ => none) (fun _ => none) [⟨some 5, 0, 43, some 6, fun cs => (Value.agg (List.toArray cs)) = .agg (pc (fun _ => 0) (fun _ => 0)), fun cs => (Value.agg (List.toArray cs)) = .agg (pc (fb (P).x) (fb (P).y))⟩] W2) plan_9_2 [(27, 0), (28, 1), (26, 2), (29, 3), (30, 4), (8, 5), (9, 7)] 165 rfl (by kernel_rfl) (InvN.of (Inv.start0 hok (by simp))) ⟨?_, ?_, ?_, ?_, ?_, ?_, ?_, ?_, trivial⟩ ?_
  · intro L v w hL hD hC hI
    refine ⟨fun _ => ?_, fun hw => by cases hw⟩
    refine hI.val0 hL (by simp) rfl rfl ?_
    rw [show readsOf plan_9_2 0 = [] from rfl]
    exact ld_B (R_k1.keep hI.inv.keep (by simp)) _ rfl rfl fun u hu => ⟨hu, Ext.refl _⟩
  · intro L v w hL hD hC hI
    refine ⟨fun _ => ?_, fun hw => by cases hw⟩
    have h0 : (v 0) = .agg (bcells (f1)) := hI.inv.val 0 (hD 0 (by decide))
    refine hI.val0 hL (by simp) rfl rfl ?_
    rw [show readsOf plan_9_2 1 = [(27, 0)] from rfl]
    refine give_call _ _ _ _ rfl rfl Try.func42 (by kernel_rfl) (by kernel_rfl) ?_
    refine Calls.mono (calls_eq (hP w) (args' := #[v 0]) (by rw [h0])) ?_
    rintro e w' ⟨rfl, hx⟩
    exact ⟨_, rfl, rfl, hx⟩
  · intro L v w hL hD hC hI
    refine ⟨fun _ => ?_, fun hw => by cases hw⟩
    have h1 : (v 1) = .tuple #[.agg (pc (fb (P).x) (fb (P).y)), .bool (true)] := hI.inv.val 1 (hD 1 (by decide))
    refine hI.val0 hL (by simp) rfl rfl ?_
    rw [show readsOf plan_9_2 2 = [(28, 1)] from rfl]
    exact ⟨h1, Ext.refl _⟩
  · intro L v w hL hD hC hI
    refine ⟨fun _ => ?_, fun hw => by cases hw⟩
    have h2 : (v 2) = .tuple #[.agg (pc (fb (P).x) (fb (P).y)), .bool (true)] := hI.inv.val 2 (hD 2 (by decide))
    refine hI.val0 hL (by simp) rfl rfl ?_
    rw [show readsOf plan_9_2 3 = [(26, 2)] from rfl]
    exact give_ext _ _ _ rfl h2 _ rfl ⟨rfl, Ext.refl _⟩
  · intro L v w hL hD hC hI
    refine ⟨fun _ => ?_, fun hw => by cases hw⟩
    have h2 : (v 2) = .tuple #[.agg (pc (fb (P).x) (fb (P).y)), .bool (true)] := hI.inv.val 2 (hD 2 (by decide))
    refine hI.val0 hL (by simp) rfl rfl ?_
    rw [show readsOf plan_9_2 4 = [(26, 2)] from rfl]
    exact give_ext _ _ _ rfl h2 _ rfl ⟨rfl, Ext.refl _⟩
  · intro L v w hL hD hC hI
    refine ⟨fun _ => ?_, fun hw => by cases hw⟩
    refine InvN.alloc_step hok hI hL ⟨some 5, 0, 43, some 6, fun cs => (Value.agg (List.toArray cs)) = .agg (pc (fun _ => 0) (fun _ => 0)), fun cs => (Value.agg (List.toArray cs)) = .agg (pc (fb (P).x) (fb (P).y))⟩ (by simp) rfl (by simp) (by intro s hs; cases hs; exact not_yet hC hL (by decide)) rfl rfl ?_
    rw [show readsOf plan_9_2 5 = [] from rfl]
    go_simp
    first | exact ⟨rfl, pcL (fun _ => 0) (fun _ => 0), rfl, rfl⟩ | exact ⟨trivial, rfl, pcL (fun _ => 0) (fun _ => 0), rfl, rfl⟩ | exact ⟨rfl, (bcells fun _ => 0).toList, by rw [Array.toArray_toList], by rw [Array.toArray_toList]⟩
  · intro L v w hL hD hC hI
    refine ⟨fun _ => ?_, fun hw => by cases hw⟩
    have h3 : (v 3) = .agg (pc (fb (P).x) (fb (P).y)) := hI.inv.val 3 (hD 3 (by decide))
    refine InvN.store_step hok hI hL ⟨some 5, 0, 43, some 6, fun cs => (Value.agg (List.toArray cs)) = .agg (pc (fun _ => 0) (fun _ => 0)), fun cs => (Value.agg (List.toArray cs)) = .agg (pc (fb (P).x) (fb (P).y))⟩ (by simp) rfl (by simp) (by intro k hk; cases hk; exact hD 5 (by decide)) rfl rfl (fun cs h => by rw [pcL_of h]; exact noI_pc _ _) ?_
    intro n cs hb hR hold
    change v 5 = .pointer (some ⟨n, 0, none⟩) at hb
    rw [show readsOf plan_9_2 6 = [(29, 3), (8, 5)] from rfl]
    exact st_P hR (by rw [pcL_of hold]; exact pcL_len _ _) _ _ rfl hb h3 fun w' cs' hr he hk => ⟨trivial, hk, cs', hr, he⟩
  · intro L v w hL hD hC hI
    refine ⟨fun _ => ?_, fun hw => by cases hw⟩
    have h4 : (v 4) = .bool (true) := hI.inv.val 4 (hD 4 (by decide))
    refine hI.val0 hL (by simp) rfl rfl ?_
    rw [show readsOf plan_9_2 7 = [(30, 4)] from rfl]
    exact ⟨h4, Ext.refl _⟩
  intro L v3 W3 hL hI
  obtain ⟨p, cs, hb_p, lo_p, hr, hn, ho⟩ := hI.inv.row_made ⟨some 5, 0, 43, some 6, fun cs => (Value.agg (List.toArray cs)) = .agg (pc (fun _ => 0) (fun _ => 0)), fun cs => (Value.agg (List.toArray cs)) = .agg (pc (fb (P).x) (fb (P).y))⟩ (by simp) 5 rfl (hL 5 (by decide))
  have R_p : RV W3 p 43 (fun u => u = .agg (pc (fb (P).x) (fb (P).y))) := ⟨cs, hr, hn 6 rfl (hL 6 (by decide))⟩
  clear hr hn ho
  replace R_k1 := R_k1.keep hI.inv.keep (by simp)
  replace R_k2 := R_k2.keep hI.inv.keep (by simp)
  replace R_raw := R_raw.keep hI.inv.keep (by simp)
  have hx' : Ext w W3 := hx.trans hI.inv.keep.to_ext
  have hs_9_2 : (v3 7) = .bool (true) := hI.inv.val 7 (hL 7 (by decide))
  clear hx hI hL hok L
  have hx := hx'
  clear hx'
  simp only [putP, Act.put, List.setIfInBounds_toArray, List.set_cons_zero, List.set_cons_succ, hb_p, hs_9_2]
  go_upto_region 3 with fail
  have hok : TrsOk [] W3.heap.size ([⟨some 5, 0, 43, some 6, fun cs => (Value.agg (List.toArray cs)) = .agg (pc (fun _ => 0) (fun _ => 0)), fun cs => (Value.agg (List.toArray cs)) = .agg (pc (fb (Q).x) (fb (Q).y))⟩] : List Trk) := ⟨by simp, by simp, by simp, by simp⟩
  refine wp_region_text (InvN [] (fun j u => match j with | 0 => u = .agg (bcells (f2)) | 1 => u = .tuple #[.agg (pc (fb (Q).x) (fb (Q).y)), .bool (true)] | 2 => u = .tuple #[.agg (pc (fb (Q).x) (fb (Q).y)), .bool (true)] | 3 => u = .agg (pc (fb (Q).x) (fb (Q).y)) | 4 => u = .bool (true) | 7 => u = .bool (true) | _ => True) (fun _ => none) (fun _ => none) [⟨some 5, 0, 43, some 6, fun cs => (Value.agg (List.toArray cs)) = .agg (pc (fun _ => 0) (fun _ => 0)), fun cs => (Value.agg (List.toArray cs)) = .agg (pc (fb (Q).x) (fb (Q).y))⟩] W3) plan_9_3 [(32, 0), (33, 1), (31, 2), (34, 3), (35, 4), (10, 5), (11, 7)] 165 rfl (by kernel_rfl) (InvN.of (Inv.start0 hok (by simp))) ⟨?_, ?_, ?_, ?_, ?_, ?_, ?_, ?_, trivial⟩ ?_
  · intro L v w hL hD hC hI
    refine ⟨fun _ => ?_, fun hw => by cases hw⟩
    refine hI.val0 hL (by simp) rfl rfl ?_
    rw [show readsOf plan_9_3 0 = [] from rfl]
    exact ld_B (R_k2.keep hI.inv.keep (by simp)) _ rfl rfl fun u hu => ⟨hu, Ext.refl _⟩
  · intro L v w hL hD hC hI
    refine ⟨fun _ => ?_, fun hw => by cases hw⟩
    have h0 : (v 0) = .agg (bcells (f2)) := hI.inv.val 0 (hD 0 (by decide))
    refine hI.val0 hL (by simp) rfl rfl ?_
    rw [show readsOf plan_9_3 1 = [(32, 0)] from rfl]
    refine give_call _ _ _ _ rfl rfl Try.func42 (by kernel_rfl) (by kernel_rfl) ?_
    refine Calls.mono (calls_eq (hQ w) (args' := #[v 0]) (by rw [h0])) ?_
    rintro e w' ⟨rfl, hx⟩
    exact ⟨_, rfl, rfl, hx⟩
  · intro L v w hL hD hC hI
    refine ⟨fun _ => ?_, fun hw => by cases hw⟩
    have h1 : (v 1) = .tuple #[.agg (pc (fb (Q).x) (fb (Q).y)), .bool (true)] := hI.inv.val 1 (hD 1 (by decide))
    refine hI.val0 hL (by simp) rfl rfl ?_
    rw [show readsOf plan_9_3 2 = [(33, 1)] from rfl]
    exact ⟨h1, Ext.refl _⟩
  · intro L v w hL hD hC hI
    refine ⟨fun _ => ?_, fun hw => by cases hw⟩
    have h2 : (v 2) = .tuple #[.agg (pc (fb (Q).x) (fb (Q).y)), .bool (true)] := hI.inv.val 2 (hD 2 (by decide))
    refine hI.val0 hL (by simp) rfl rfl ?_
    rw [show readsOf plan_9_3 3 = [(31, 2)] from rfl]
    exact give_ext _ _ _ rfl h2 _ rfl ⟨rfl, Ext.refl _⟩
  · intro L v w hL hD hC hI
    refine ⟨fun _ => ?_, fun hw => by cases hw⟩
    have h2 : (v 2) = .tuple #[.agg (pc (fb (Q).x) (fb (Q).y)), .bool (true)] := hI.inv.val 2 (hD 2 (by decide))
    refine hI.val0 hL (by simp) rfl rfl ?_
    rw [show readsOf plan_9_3 4 = [(31, 2)] from rfl]
    exact give_ext _ _ _ rfl h2 _ rfl ⟨rfl, Ext.refl _⟩
  · intro L v w hL hD hC hI
    refine ⟨fun _ => ?_, fun hw => by cases hw⟩
    refine InvN.alloc_step hok hI hL ⟨some 5, 0, 43, some 6, fun cs => (Value.agg (List.toArray cs)) = .agg (pc (fun _ => 0) (fun _ => 0)), fun cs => (Value.agg (List.toArray cs)) = .agg (pc (fb (Q).x) (fb (Q).y))⟩ (by simp) rfl (by simp) (by intro s hs; cases hs; exact not_yet hC hL (by decide)) rfl rfl ?_
    rw [show readsOf plan_9_3 5 = [] from rfl]
    go_simp
    first | exact ⟨rfl, pcL (fun _ => 0) (fun _ => 0), rfl, rfl⟩ | exact ⟨trivial, rfl, pcL (fun _ => 0) (fun _ => 0), rfl, rfl⟩ | exact ⟨rfl, (bcells fun _ => 0).toList, by rw [Array.toArray_toList], by rw [Array.toArray_toList]⟩
  · intro L v w hL hD hC hI
    refine ⟨fun _ => ?_, fun hw => by cases hw⟩
    have h3 : (v 3) = .agg (pc (fb (Q).x) (fb (Q).y)) := hI.inv.val 3 (hD 3 (by decide))
    refine InvN.store_step hok hI hL ⟨some 5, 0, 43, some 6, fun cs => (Value.agg (List.toArray cs)) = .agg (pc (fun _ => 0) (fun _ => 0)), fun cs => (Value.agg (List.toArray cs)) = .agg (pc (fb (Q).x) (fb (Q).y))⟩ (by simp) rfl (by simp) (by intro k hk; cases hk; exact hD 5 (by decide)) rfl rfl (fun cs h => by rw [pcL_of h]; exact noI_pc _ _) ?_
    intro n cs hb hR hold
    change v 5 = .pointer (some ⟨n, 0, none⟩) at hb
    rw [show readsOf plan_9_3 6 = [(34, 3), (10, 5)] from rfl]
    exact st_P hR (by rw [pcL_of hold]; exact pcL_len _ _) _ _ rfl hb h3 fun w' cs' hr he hk => ⟨trivial, hk, cs', hr, he⟩
  · intro L v w hL hD hC hI
    refine ⟨fun _ => ?_, fun hw => by cases hw⟩
    have h4 : (v 4) = .bool (true) := hI.inv.val 4 (hD 4 (by decide))
    refine hI.val0 hL (by simp) rfl rfl ?_
    rw [show readsOf plan_9_3 7 = [(35, 4)] from rfl]
    exact ⟨h4, Ext.refl _⟩
  intro L v4 W4 hL hI
  obtain ⟨q, cs, hb_q, lo_q, hr, hn, ho⟩ := hI.inv.row_made ⟨some 5, 0, 43, some 6, fun cs => (Value.agg (List.toArray cs)) = .agg (pc (fun _ => 0) (fun _ => 0)), fun cs => (Value.agg (List.toArray cs)) = .agg (pc (fb (Q).x) (fb (Q).y))⟩ (by simp) 5 rfl (hL 5 (by decide))
  have R_q : RV W4 q 43 (fun u => u = .agg (pc (fb (Q).x) (fb (Q).y))) := ⟨cs, hr, hn 6 rfl (hL 6 (by decide))⟩
  clear hr hn ho
  replace R_k1 := R_k1.keep hI.inv.keep (by simp)
  replace R_k2 := R_k2.keep hI.inv.keep (by simp)
  replace R_raw := R_raw.keep hI.inv.keep (by simp)
  replace R_p := R_p.keep hI.inv.keep (by simp)
  have hx' : Ext w W4 := hx.trans hI.inv.keep.to_ext
  have hs_11_3 : (v4 7) = .bool (true) := hI.inv.val 7 (hL 7 (by decide))
  clear hx hI hL hok L
  have hx := hx'
  clear hx'
  simp only [putP, Act.put, List.setIfInBounds_toArray, List.set_cons_zero, List.set_cons_succ, hb_q, hs_11_3]
  go_upto_region 4 with fail
  have hok : TrsOk [] W4.heap.size ([] : List Trk) := ⟨by simp, by simp, by simp, by simp⟩
  refine wp_region_text (InvN [] (fun j u => match j with | 0 => u = .bool (true) | 1 => u = .bool (false) | 2 => u = .bool (false) | 3 => u = .bool (true) | 4 => u = .bool (false) | 5 => u = .bool (false) | _ => True) (fun _ => none) (fun _ => none) [] W4) plan_9_4 [(36, 0), (37, 1), (38, 2), (39, 3), (40, 4), (41, 5)] 165 rfl (by kernel_rfl) (InvN.of (Inv.start0 hok (by simp))) ⟨?_, ?_, ?_, ?_, ?_, ?_, trivial⟩ ?_
  · intro L v w hL hD hC hI
    refine ⟨fun _ => ?_, fun hw => by cases hw⟩
    refine hI.val0 hL (by simp) rfl rfl ?_
    rw [show readsOf plan_9_4 0 = [] from rfl]
    first | exact ⟨rfl, Ext.refl _⟩ | (go_simp; exact ⟨rfl, Ext.refl _⟩)
  · intro L v w hL hD hC hI
    refine ⟨fun _ => ?_, fun hw => by cases hw⟩
    have h0 : (v 0) = .bool (true) := hI.inv.val 0 (hD 0 (by decide))
    refine hI.val0 hL (by simp) rfl rfl ?_
    rw [show readsOf plan_9_4 1 = [(36, 0)] from rfl]
    exact give_not _ _ rfl h0 ⟨rfl, Ext.refl _⟩
  · intro L v w hL hD hC hI
    refine ⟨fun _ => ?_, fun hw => by cases hw⟩
    have h1 : (v 1) = .bool (false) := hI.inv.val 1 (hD 1 (by decide))
    refine hI.val0 hL (by simp) rfl rfl ?_
    rw [show readsOf plan_9_4 2 = [(37, 1)] from rfl]
    exact ⟨h1, Ext.refl _⟩
  · intro L v w hL hD hC hI
    have hg : v 2 = .bool false := hI.inv.val 2 (hD 2 (by decide))
    refine ⟨fun _ => ?_, fun hw => by simp [wantedV, hg] at hw⟩
    have h2 : (v 2) = .bool (false) := hI.inv.val 2 (hD 2 (by decide))
    refine hI.val0 hL (by simp) rfl rfl ?_
    rw [show readsOf plan_9_4 3 = [(38, 2)] from rfl]
    first | exact ⟨rfl, Ext.refl _⟩ | (go_simp; exact ⟨rfl, Ext.refl _⟩)
  · intro L v w hL hD hC hI
    have hg : v 2 = .bool false := hI.inv.val 2 (hD 2 (by decide))
    refine ⟨fun _ => ?_, fun hw => by simp [wantedV, hg] at hw⟩
    have h2 : (v 2) = .bool (false) := hI.inv.val 2 (hD 2 (by decide))
    have h3 : (v 3) = .bool (true) := hI.inv.val 3 (hD 3 (by decide))
    refine hI.val0 hL (by simp) rfl rfl ?_
    rw [show readsOf plan_9_4 4 = [(38, 2), (39, 3)] from rfl]
    exact give_not _ _ rfl h3 ⟨rfl, Ext.refl _⟩
  · intro L v w hL hD hC hI
    refine ⟨fun _ => ?_, fun hw => by cases hw⟩
    have h2 : (v 2) = .bool (false) := hI.inv.val 2 (hD 2 (by decide))
    have h4 : (v 4) = .bool (false) := hI.inv.val 4 (hD 4 (by decide))
    refine hI.val0 hL (by simp) rfl rfl ?_
    rw [show readsOf plan_9_4 5 = [(38, 2), (40, 4)] from rfl]
    exact give_pick_f _ _ _ rfl h2 ⟨h4, Ext.refl _⟩
  intro L v5 W5 hL hI
  replace R_k1 := R_k1.keep hI.inv.keep (by simp)
  replace R_k2 := R_k2.keep hI.inv.keep (by simp)
  replace R_raw := R_raw.keep hI.inv.keep (by simp)
  replace R_p := R_p.keep hI.inv.keep (by simp)
  replace R_q := R_q.keep hI.inv.keep (by simp)
  have hx' : Ext w W5 := hx.trans hI.inv.keep.to_ext
  have hs_36_4 : (v5 0) = .bool (true) := hI.inv.val 0 (hL 0 (by decide))
  have hs_38_4 : (v5 2) = .bool (false) := hI.inv.val 2 (hL 2 (by decide))
  have hs_39_4 : (v5 3) = .bool (true) := hI.inv.val 3 (hL 3 (by decide))
  have hs_41_4 : (v5 5) = .bool (false) := hI.inv.val 5 (hL 5 (by decide))
  clear hx hI hL hok L
  have hx := hx'
  clear hx'
  simp only [putP, Act.put, List.setIfInBounds_toArray, List.set_cons_zero, List.set_cons_succ, hs_36_4, hs_38_4, hs_39_4, hs_41_4]
  go_upto_region 6 with fail
  have hok : TrsOk [] W5.heap.size ([] : List Trk) := ⟨by simp, by simp, by simp, by simp⟩
  refine wp_region_text (InvN [] (fun _ _ => True) (fun j => match j with | 0 => some (C7.d) | 1 => some (C7.d) | _ => none) (fun _ => none) [] W5) plan_9_6 [(42, 0), (12, 1)] 165 rfl (by kernel_rfl) (InvN.of (Inv.start0 hok (by simp))) ⟨?_, ?_, trivial⟩ ?_
  · intro L v w hL hD hC hI
    refine ⟨fun _ => ?_, fun hw => by cases hw⟩
    refine hI.numv _ hL (by simp) rfl rfl (fun _ => trivial) ?_
    rw [show readsOf plan_9_6 0 = [] from rfl]
    refine give_call _ _ _ _ rfl rfl Try.func43 (by kernel_rfl) (by kernel_rfl) ?_
    refine Calls.mono (nD w) ?_
    rintro e w' ⟨r, rfl, hr, hx⟩
    exact ⟨r, rfl, hr, hx⟩
  · intro L v w hL hD hC hI
    refine ⟨fun _ => ?_, fun hw => by cases hw⟩
    have h0 : NF w (v 0) (C7.d) := hI.num.n 0 _ (hD 0 (by decide)) rfl
    refine hI.numv _ hL (by simp) rfl rfl (fun _ => trivial) ?_
    rw [show readsOf plan_9_6 1 = [(42, 0)] from rfl]
    exact ⟨h0, Ext.refl _⟩
  intro L v6 W6 hL hI
  replace R_k1 := R_k1.keep hI.inv.keep (by simp)
  replace R_k2 := R_k2.keep hI.inv.keep (by simp)
  replace R_raw := R_raw.keep hI.inv.keep (by simp)
  replace R_p := R_p.keep hI.inv.keep (by simp)
  replace R_q := R_q.keep hI.inv.keep (by simp)
  have hx' : Ext w W6 := hx.trans hI.inv.keep.to_ext
  have hn_12 := hI.num.n 1 _ (hL 1 (by decide)) rfl
  clear hx hI hL hok L
  have hx := hx'
  clear hx'
  simp only [putP, Act.put, List.setIfInBounds_toArray, List.set_cons_zero, List.set_cons_succ]
  go_upto_region 7 with fail
  have hok : TrsOk [] W6.heap.size ([⟨some 6, 0, 43, some 7, fun cs => (Value.agg (List.toArray cs)) = .agg (pc (fun _ => 0) (fun _ => 0)), fun cs => (Value.agg (List.toArray cs)) = .agg (pc (fb ((P).add (Q)).x) (fb ((P).add (Q)).y))⟩] : List Trk) := ⟨by simp, by simp, by simp, by simp⟩
  refine wp_region_text (InvN [] (fun j u => match j with | 0 => u = .agg (pc (fb (P).x) (fb (P).y)) | 1 => u = .agg (pc (fb (Q).x) (fb (Q).y)) | 2 => u = .tuple #[.agg (pc (fb ((P).add (Q)).x) (fb ((P).add (Q)).y)), .nilIface] | 3 => u = .tuple #[.agg (pc (fb ((P).add (Q)).x) (fb ((P).add (Q)).y)), .nilIface] | 4 => u = .agg (pc (fb ((P).add (Q)).x) (fb ((P).add (Q)).y)) | 5 => u = .nilIface | 8 => u = .nilIface | _ => True) (fun _ => none) (fun _ => none) [⟨some 6, 0, 43, some 7, fun cs => (Value.agg (List.toArray cs)) = .agg (pc (fun _ => 0) (fun _ => 0)), fun cs => (Value.agg (List.toArray cs)) = .agg (pc (fb ((P).add (Q)).x) (fb ((P).add (Q)).y))⟩] W6) plan_9_7 [(44, 0), (45, 1), (46, 2), (43, 3), (47, 4), (48, 5), (13, 6), (14, 8)] 165 rfl (by kernel_rfl) (InvN.of (Inv.start0 hok (by simp))) ⟨?_, ?_, ?_, ?_, ?_, ?_, ?_, ?_, ?_, trivial⟩ ?_
  · intro L v w hL hD hC hI
    refine ⟨fun _ => ?_, fun hw => by cases hw⟩
    refine hI.val0 hL (by simp) rfl rfl ?_
    rw [show readsOf plan_9_7 0 = [] from rfl]
    exact ld_P (R_p.keep hI.inv.keep (by simp)) _ rfl rfl fun u hu => ⟨hu, Ext.refl _⟩
  · intro L v w hL hD hC hI
    refine ⟨fun _ => ?_, fun hw => by cases hw⟩
    refine hI.val0 hL (by simp) rfl rfl ?_
    rw [show readsOf plan_9_7 1 = [] from rfl]
    exact ld_P (R_q.keep hI.inv.keep (by simp)) _ rfl rfl fun u hu => ⟨hu, Ext.refl _⟩
  · intro L v w hL hD hC hI
    refine ⟨fun _ => ?_, fun hw => by cases hw⟩
    have h0 : (v 0) = .agg (pc (fb (P).x) (fb (P).y)) := hI.inv.val 0 (hD 0 (by decide))
    have h1 : (v 1) = .agg (pc (fb (Q).x) (fb (Q).y)) := hI.inv.val 1 (hD 1 (by decide))
    refine hI.val0 hL (by simp) rfl rfl ?_
    rw [show readsOf plan_9_7 2 = [(44, 0), (45, 1)] from rfl]
    refine give_call _ _ _ _ rfl rfl Try.func44 (by kernel_rfl) (by kernel_rfl) ?_
    refine Calls.mono (calls_eq (add_on (P := P) (Q := Q) (tf_V_fb _) (tf_V_fb _) (tf_V_fb _) (tf_V_fb _) w) (args' := #[v 0, v 1]) (by rw [h0, h1])) ?_
    rintro e w' ⟨rfl, hx⟩
    exact ⟨_, rfl, rfl, hx⟩
  · intro L v w hL hD hC hI
    refine ⟨fun _ => ?_, fun hw => by cases hw⟩
    have h2 : (v 2) = .tuple #[.agg (pc (fb ((P).add (Q)).x) (fb ((P).add (Q)).y)), .nilIface] := hI.inv.val 2 (hD 2 (by decide))
    refine hI.val0 hL (by simp) rfl rfl ?_
    rw [show readsOf plan_9_7 3 = [(46, 2)] from rfl]
    exact ⟨h2, Ext.refl _⟩
  · intro L v w hL hD hC hI
    refine ⟨fun _ => ?_, fun hw => by cases hw⟩
    have h3 : (v 3) = .tuple #[.agg (pc (fb ((P).add (Q)).x) (fb ((P).add (Q)).y)), .nilIface] := hI.inv.val 3 (hD 3 (by decide))
    refine hI.val0 hL (by simp) rfl rfl ?_
    rw [show readsOf plan_9_7 4 = [(43, 3)] from rfl]
    exact give_ext _ _ _ rfl h3 _ rfl ⟨rfl, Ext.refl _⟩
  · intro L v w hL hD hC hI
    refine ⟨fun _ => ?_, fun hw => by cases hw⟩
    have h3 : (v 3) = .tuple #[.agg (pc (fb ((P).add (Q)).x) (fb ((P).add (Q)).y)), .nilIface] := hI.inv.val 3 (hD 3 (by decide))
    refine hI.val0 hL (by simp) rfl rfl ?_
    rw [show readsOf plan_9_7 5 = [(43, 3)] from rfl]
    exact give_ext _ _ _ rfl h3 _ rfl ⟨rfl, Ext.refl _⟩
  · intro L v w hL hD hC hI
    refine ⟨fun _ => ?_, fun hw => by cases hw⟩
    refine InvN.alloc_step hok hI hL ⟨some 6, 0, 43, some 7, fun cs => (Value.agg (List.toArray cs)) = .agg (pc (fun _ => 0) (fun _ => 0)), fun cs => (Value.agg (List.toArray cs)) = .agg (pc (fb ((P).add (Q)).x) (fb ((P).add (Q)).y))⟩ (by simp) rfl (by simp) (by intro s hs; cases hs; exact not_yet hC hL (by decide)) rfl rfl ?_
    rw [show readsOf plan_9_7 6 = [] from rfl]
    go_simp
    first | exact ⟨rfl, pcL (fun _ => 0) (fun _ => 0), rfl, rfl⟩ | exact ⟨trivial, rfl, pcL (fun _ => 0) (fun _ => 0), rfl, rfl⟩ | exact ⟨rfl, (bcells fun _ => 0).toList, by rw [Array.toArray_toList], by rw [Array.toArray_toList]⟩
  · intro L v w hL hD hC hI
    refine ⟨fun _ => ?_, fun hw => by cases hw⟩
    have h4 : (v 4) = .agg (pc (fb ((P).add (Q)).x) (fb ((P).add (Q)).y)) := hI.inv.val 4 (hD 4 (by decide))
    refine InvN.store_step hok hI hL ⟨some 6, 0, 43, some 7, fun cs => (Value.agg (List.toArray cs)) = .agg (pc (fun _ => 0) (fun _ => 0)), fun cs => (Value.agg (List.toArray cs)) = .agg (pc (fb ((P).add (Q)).x) (fb ((P).add (Q)).y))⟩ (by simp) rfl (by simp) (by intro k hk; cases hk; exact hD 6 (by decide)) rfl rfl (fun cs h => by rw [pcL_of h]; exact noI_pc _ _) ?_
    intro n cs hb hR hold
    change v 6 = .pointer (some ⟨n, 0, none⟩) at hb
    rw [show readsOf plan_9_7 7 = [(47, 4), (13, 6)] from rfl]
    exact st_P hR (by rw [pcL_of hold]; exact pcL_len _ _) _ _ rfl hb h4 fun w' cs' hr he hk => ⟨trivial, hk, cs', hr, he⟩
  · intro L v w hL hD hC hI
    refine ⟨fun _ => ?_, fun hw => by cases hw⟩
    have h5 : (v 5) = .nilIface := hI.inv.val 5 (hD 5 (by decide))
    refine hI.val0 hL (by simp) rfl rfl ?_
    rw [show readsOf plan_9_7 8 = [(48, 5)] from rfl]
    exact ⟨h5, Ext.refl _⟩
  intro L v7 W7 hL hI
  obtain ⟨s, cs, hb_s, lo_s, hr, hn, ho⟩ := hI.inv.row_made ⟨some 6, 0, 43, some 7, fun cs => (Value.agg (List.toArray cs)) = .agg (pc (fun _ => 0) (fun _ => 0)), fun cs => (Value.agg (List.toArray cs)) = .agg (pc (fb ((P).add (Q)).x) (fb ((P).add (Q)).y))⟩ (by simp) 6 rfl (hL 6 (by decide))
  have R_s : RV W7 s 43 (fun u => u = .agg (pc (fb ((P).add (Q)).x) (fb ((P).add (Q)).y))) := ⟨cs, hr, hn 7 rfl (hL 7 (by decide))⟩
  clear hr hn ho
  replace R_k1 := R_k1.keep hI.inv.keep (by simp)
  replace R_k2 := R_k2.keep hI.inv.keep (by simp)
  replace R_raw := R_raw.keep hI.inv.keep (by simp)
  replace R_p := R_p.keep hI.inv.keep (by simp)
  replace R_q := R_q.keep hI.inv.keep (by simp)
  replace hn_12 := hn_12.keep hI.inv.keep (by simp)
  have hx' : Ext w W7 := hx.trans hI.inv.keep.to_ext
  have hs_14_7 : (v7 8) = .nilIface := hI.inv.val 8 (hL 8 (by decide))
  clear hx hI hL hok L
  have hx := hx'
  clear hx'
  simp only [putP, Act.put, List.setIfInBounds_toArray, List.set_cons_zero, List.set_cons_succ, hb_s, hs_14_7]
  go_upto_region 8 with fail
  have hok : TrsOk [] W7.heap.size ([⟨some 5, 0, 43, some 6, fun cs => (Value.agg (List.toArray cs)) = .agg (pc (fun _ => 0) (fun _ => 0)), fun cs => (Value.agg (List.toArray cs)) = .agg (pc (fb ((P).neg).x) (fb ((P).neg).y))⟩] : List Trk) := ⟨by simp, by simp, by simp, by simp⟩
  refine wp_region_text (InvN [] (fun j u => match j with | 0 => u = .agg (pc (fb (P).x) (fb (P).y)) | 1 => u = .tuple #[.agg (pc (fb ((P).neg).x) (fb ((P).neg).y)), .nilIface] | 2 => u = .tuple #[.agg (pc (fb ((P).neg).x) (fb ((P).neg).y)), .nilIface] | 3 => u = .agg (pc (fb ((P).neg).x) (fb ((P).neg).y)) | 4 => u = .nilIface | 7 => u = .nilIface | _ => True) (fun _ => none) (fun _ => none) [⟨some 5, 0, 43, some 6, fun cs => (Value.agg (List.toArray cs)) = .agg (pc (fun _ => 0) (fun _ => 0)), fun cs => (Value.agg (List.toArray cs)) = .agg (pc (fb ((P).neg).x) (fb ((P).neg).y))⟩] W7) plan_9_8 [(50, 0), (51, 1), (49, 2), (52, 3), (53, 4), (15, 5), (16, 7)] 165 rfl (by kernel_rfl) (InvN.of (Inv.start0 hok (by simp))) ⟨?_, ?_, ?_, ?_, ?_, ?_, ?_, ?_, trivial⟩ ?_
  · intro L v w hL hD hC hI
    refine ⟨fun _ => ?_, fun hw => by cases hw⟩
    refine hI.val0 hL (by simp) rfl rfl ?_
    rw [show readsOf plan_9_8 0 = [] from rfl]
    exact ld_P (R_p.keep hI.inv.keep (by simp)) _ rfl rfl fun u hu => ⟨hu, Ext.refl _⟩
  · intro L v w hL hD hC hI
    refine ⟨fun _ => ?_, fun hw => by cases hw⟩
    have h0 : (v 0) = .agg (pc (fb (P).x) (fb (P).y)) := hI.inv.val 0 (hD 0 (by decide))
    refine hI.val0 hL (by simp) rfl rfl ?_
    rw [show readsOf plan_9_8 1 = [(50, 0)] from rfl]
    refine give_call _ _ _ _ rfl rfl Try.func45 (by kernel_rfl) (by kernel_rfl) ?_
    refine Calls.mono (calls_eq (neg_p2 (P := P) (tf_V_fb _) (tf_V_fb _) w) (args' := #[v 0]) (by rw [h0])) ?_
    rintro e w' ⟨rfl, hx⟩
    exact ⟨_, rfl, rfl, hx⟩
  · intro L v w hL hD hC hI
    refine ⟨fun _ => ?_, fun hw => by cases hw⟩
    have h1 : (v 1) = .tuple #[.agg (pc (fb ((P).neg).x) (fb ((P).neg).y)), .nilIface] := hI.inv.val 1 (hD 1 (by decide))
    refine hI.val0 hL (by simp) rfl rfl ?_
    rw [show readsOf plan_9_8 2 = [(51, 1)] from rfl]
    exact ⟨h1, Ext.refl _⟩
  · intro L v w hL hD hC hI
    refine ⟨fun _ => ?_, fun hw => by cases hw⟩
    have h2 : (v 2) = .tuple #[.agg (pc (fb ((P).neg).x) (fb ((P).neg).y)), .nilIface] := hI.inv.val 2 (hD 2 (by decide))
    refine hI.val0 hL (by simp) rfl rfl ?_
    rw [show readsOf plan_9_8 3 = [(49, 2)] from rfl]
    exact give_ext _ _ _ rfl h2 _ rfl ⟨rfl, Ext.refl _⟩
  · intro L v w hL hD hC hI
    refine ⟨fun _ => ?_, fun hw => by cases hw⟩
    have h2 : (v 2) = .tuple #[.agg (pc (fb ((P).neg).x) (fb ((P).neg).y)), .nilIface] := hI.inv.val 2 (hD 2 (by decide))
    refine hI.val0 hL (by simp) rfl rfl ?_
    rw [show readsOf plan_9_8 4 = [(49, 2)] from rfl]
    exact give_ext _ _ _ rfl h2 _ rfl ⟨rfl, Ext.refl _⟩
  · intro L v w hL hD hC hI
    refine ⟨fun _ => ?_, fun hw => by cases hw⟩
    refine InvN.alloc_step hok hI hL ⟨some 5, 0, 43, some 6, fun cs => (Value.agg (List.toArray cs)) = .agg (pc (fun _ => 0) (fun _ => 0)), fun cs => (Value.agg (List.toArray cs)) = .agg (pc (fb ((P).neg).x) (fb ((P).neg).y))⟩ (by simp) rfl (by simp) (by intro s hs; cases hs; exact not_yet hC hL (by decide)) rfl rfl ?_
    rw [show readsOf plan_9_8 5 = [] from rfl]
    go_simp
    first | exact ⟨rfl, pcL (fun _ => 0) (fun _ => 0), rfl, rfl⟩ | exact ⟨trivial, rfl, pcL (fun _ => 0) (fun _ => 0), rfl, rfl⟩ | exact ⟨rfl, (bcells fun _ => 0).toList, by rw [Array.toArray_toList], by rw [Array.toArray_toList]⟩
  · intro L v w hL hD hC hI
    refine ⟨fun _ => ?_, fun hw => by cases hw⟩
    have h3 : (v 3) = .agg (pc (fb ((P).neg).x) (fb ((P).neg).y)) := hI.inv.val 3 (hD 3 (by decide))
    refine InvN.store_step hok hI hL ⟨some 5, 0, 43, some 6, fun cs => (Value.agg (List.toArray cs)) = .agg (pc (fun _ => 0) (fun _ => 0)), fun cs => (Value.agg (List.toArray cs)) = .agg (pc (fb ((P).neg).x) (fb ((P).neg).y))⟩ (by simp) rfl (by simp) (by intro k hk; cases hk; exact hD 5 (by decide)) rfl rfl (fun cs h => by rw [pcL_of h]; exact noI_pc _ _) ?_
    intro n cs hb hR hold
    change v 5 = .pointer (some ⟨n, 0, none⟩) at hb
    rw [show readsOf plan_9_8 6 = [(52, 3), (15, 5)] from rfl]
    exact st_P hR (by rw [pcL_of hold]; exact pcL_len _ _) _ _ rfl hb h3 fun w' cs' hr he hk => ⟨trivial, hk, cs', hr, he⟩
  · intro L v w hL hD hC hI
    refine ⟨fun _ => ?_, fun hw => by cases hw⟩
    have h4 : (v 4) = .nilIface := hI.inv.val 4 (hD 4 (by decide))
    refine hI.val0 hL (by simp) rfl rfl ?_
    rw [show readsOf plan_9_8 7 = [(53, 4)] from rfl]
    exact ⟨h4, Ext.refl _⟩
  intro L v8 W8 hL hI
  obtain ⟨n, cs, hb_n, lo_n, hr, hn, ho⟩ := hI.inv.row_made ⟨some 5, 0, 43, some 6, fun cs => (Value.agg (List.toArray cs)) = .agg (pc (fun _ => 0) (fun _ => 0)), fun cs => (Value.agg (List.toArray cs)) = .agg (pc (fb ((P).neg).x) (fb ((P).neg).y))⟩ (by simp) 5 rfl (hL 5 (by decide))
  have R_n : RV W8 n 43 (fun u => u = .agg (pc (fb ((P).neg).x) (fb ((P).neg).y))) := ⟨cs, hr, hn 6 rfl (hL 6 (by decide))⟩
  clear hr hn ho
  replace R_k1 := R_k1.keep hI.inv.keep (by simp)
  replace R_k2 := R_k2.keep hI.inv.keep (by simp)
  replace R_raw := R_raw.keep hI.inv.keep (by simp)
  replace R_p := R_p.keep hI.inv.keep (by simp)
  replace R_q := R_q.keep hI.inv.keep (by simp)
  replace R_s := R_s.keep hI.inv.keep (by simp)
  replace hn_12 := hn_12.keep hI.inv.keep (by simp)
  have hx' : Ext w W8 := hx.trans hI.inv.keep.to_ext
  have hs_16_8 : (v8 7) = .nilIface := hI.inv.val 7 (hL 7 (by decide))
  clear hx hI hL hok L
  have hx := hx'
  clear hx'
  simp only [putP, Act.put, List.setIfInBounds_toArray, List.set_cons_zero, List.set_cons_succ, hb_n, hs_16_8]
  go_upto_region 9 with fail
  have hok : TrsOk [] W8.heap.size ([] : List Trk) := ⟨by simp, by simp, by simp, by simp⟩
  refine wp_region_plan (InvN [] (fun j u => match j with | 0 => u = .nilIface | 1 => u = .bool (false) | 2 => u = .bool (false) | 3 => u = .nilIface | 4 => u = .bool (false) | 5 => u = .bool (false) | 6 => u = .bool (false) | 7 => u = .agg (pc (fb ((P).add (Q)).x) (fb ((P).add (Q)).y)) | 8 => u = .agg (pc (fb (P).x) (fb (P).y)) | 10 => u = .agg (pc (fb (Q).x) (fb (Q).y)) | 14 => u = .agg (pc (fb ((P).add (Q)).x) (fb ((P).add (Q)).y)) | 15 => u = .bool (false) | 16 => u = .bool (false) | 17 => u = .bool (false) | 18 => u = .agg (pc (fb ((P).neg).x) (fb ((P).neg).y)) | 19 => u = .agg (pc (fb (P).x) (fb (P).y)) | 20 => u = .agg (pc (fb ((P).neg).x) (fb ((P).neg).y)) | 21 => u = .bool (false) | 22 => u = .bool (false) | _ => True) (fun j => match j with | 12 => some (C7.d) | _ => none) (fun j => match j with | 9 => some (P) | 11 => some (Q) | 13 => some ((P).add (Q)) | _ => none) [] W8) plan_9_9 [(54, 0), (55, 1), (56, 2), (57, 3), (58, 4), (59, 5), (60, 6), (61, 7), (62, 8), (63, 9), (64, 10), (65, 11), (66, 12), (67, 13), (68, 14), (69, 15), (70, 16), (71, 17), (72, 18), (73, 19), (74, 20), (75, 21), (76, 22)] 165 (by kernel_rfl) rfl (by kernel_rfl) (InvN.of (Inv.start hok (by simp))) ⟨?_, ?_, ?_, ?_, ?_, ?_, ?_, ?_, ?_, ?_, ?_, ?_, ?_, ?_, ?_, ?_, ?_, ?_, ?_, ?_, ?_, ?_, ?_, trivial⟩ ?_
  · intro L v w hL hD hC hI
    refine ⟨fun _ => ?_, fun hw => by cases hw⟩
    refine hI.val0 hL (by simp) rfl rfl ?_
    rw [show readsOf plan_9_9 0 = [] from rfl]
    first | exact ⟨rfl, Ext.refl _⟩ | (go_simp; exact ⟨rfl, Ext.refl _⟩)
  · intro L v w hL hD hC hI
    refine ⟨fun _ => ?_, fun hw => by cases hw⟩
    have h0 : (v 0) = .nilIface := hI.inv.val 0 (hD 0 (by decide))
    refine hI.val0 hL (by simp) rfl rfl ?_
    rw [show readsOf plan_9_9 1 = [(54, 0)] from rfl]
    exact give_nil_ne _ _ rfl h0 rfl ⟨rfl, Ext.refl _⟩
  · intro L v w hL hD hC hI
    refine ⟨fun _ => ?_, fun hw => by cases hw⟩
    have h1 : (v 1) = .bool (false) := hI.inv.val 1 (hD 1 (by decide))
    refine hI.val0 hL (by simp) rfl rfl ?_
    rw [show readsOf plan_9_9 2 = [(55, 1)] from rfl]
    exact ⟨h1, Ext.refl _⟩
  · intro L v w hL hD hC hI
    have hg : v 2 = .bool false := hI.inv.val 2 (hD 2 (by decide))
    refine ⟨fun _ => ?_, fun hw => by simp [wantedV, hg] at hw⟩
    have h2 : (v 2) = .bool (false) := hI.inv.val 2 (hD 2 (by decide))
    refine hI.val0 hL (by simp) rfl rfl ?_
    rw [show readsOf plan_9_9 3 = [(56, 2)] from rfl]
    first | exact ⟨rfl, Ext.refl _⟩ | (go_simp; exact ⟨rfl, Ext.refl _⟩)
  · intro L v w hL hD hC hI
    have hg : v 2 = .bool false := hI.inv.val 2 (hD 2 (by decide))
    refine ⟨fun _ => ?_, fun hw => by simp [wantedV, hg] at hw⟩
    have h2 : (v 2) = .bool (false) := hI.inv.val 2 (hD 2 (by decide))
    have h3 : (v 3) = .nilIface := hI.inv.val 3 (hD 3 (by decide))
    refine hI.val0 hL (by simp) rfl rfl ?_
    rw [show readsOf plan_9_9 4 = [(56, 2), (57, 3)] from rfl]
    exact give_nil_ne _ _ rfl h3 rfl ⟨rfl, Ext.refl _⟩
  · intro L v w hL hD hC hI
    refine ⟨fun _ => ?_, fun hw => by cases hw⟩
    have h2 : (v 2) = .bool (false) := hI.inv.val 2 (hD 2 (by decide))
    have h4 : (v 4) = .bool (false) := hI.inv.val 4 (hD 4 (by decide))
    refine hI.val0 hL (by simp) rfl rfl ?_
    rw [show readsOf plan_9_9 5 = [(56, 2), (58, 4)] from rfl]
    exact give_pick_f _ _ _ rfl h2 ⟨h4, Ext.refl _⟩
  · intro L v w hL hD hC hI
    refine ⟨fun _ => ?_, fun hw => by cases hw⟩
    have h5 : (v 5) = .bool (false) := hI.inv.val 5 (hD 5 (by decide))
    refine hI.val0 hL (by simp) rfl rfl ?_
    rw [show readsOf plan_9_9 6 = [(59, 5)] from rfl]
    exact ⟨h5, Ext.refl _⟩
  · intro L v w hL hD hC hI
    have hg : v 6 = .bool false := hI.inv.val 6 (hD 6 (by decide))
    refine ⟨fun _ => ?_, fun hw => by simp [wantedV, hg] at hw⟩
    have h6 : (v 6) = .bool (false) := hI.inv.val 6 (hD 6 (by decide))
    refine hI.val0 hL (by simp) rfl rfl ?_
    rw [show readsOf plan_9_9 7 = [(60, 6)] from rfl]
    exact ld_P (R_s.keep hI.inv.keep (by simp)) _ rfl rfl fun u hu => ⟨hu, Ext.refl _⟩
  · intro L v w hL hD hC hI
    have hg : v 6 = .bool false := hI.inv.val 6 (hD 6 (by decide))
    refine ⟨fun _ => ?_, fun hw => by simp [wantedV, hg] at hw⟩
    have h6 : (v 6) = .bool (false) := hI.inv.val 6 (hD 6 (by decide))
    refine hI.val0 hL (by simp) rfl rfl ?_
    rw [show readsOf plan_9_9 8 = [(60, 6)] from rfl]
    exact ld_P (R_p.keep hI.inv.keep (by simp)) _ rfl rfl fun u hu => ⟨hu, Ext.refl _⟩
  · intro L v w hL hD hC hI
    have hg : v 6 = .bool false := hI.inv.val 6 (hD 6 (by decide))
    refine ⟨fun _ => ?_, fun hw => by simp [wantedV, hg] at hw⟩
    have h6 : (v 6) = .bool (false) := hI.inv.val 6 (hD 6 (by decide))
    have h8 : (v 8) = .agg (pc (fb (P).x) (fb (P).y)) := hI.inv.val 8 (hD 8 (by decide))
    refine hI.ptv _ hL (by simp) rfl rfl (fun _ => trivial) ?_
    rw [show readsOf plan_9_9 9 = [(60, 6), (62, 8)] from rfl]
    refine give_call _ _ _ _ rfl rfl Try.func48 (by kernel_rfl) (by kernel_rfl) ?_
    refine Calls.mono (calls_eq (rin7 (P := P) (tf_V_fb _) (tf_V_fb _) w) (args' := #[v 8]) (by rw [h8])) ?_
    rintro e w' ⟨r, rfl, hr, hx⟩
    exact ⟨r, rfl, hr, hx⟩
  · intro L v w hL hD hC hI
    have hg : v 6 = .bool false := hI.inv.val 6 (hD 6 (by decide))
    refine ⟨fun _ => ?_, fun hw => by simp [wantedV, hg] at hw⟩
    have h6 : (v 6) = .bool (false) := hI.inv.val 6 (hD 6 (by decide))
    refine hI.val0 hL (by simp) rfl rfl ?_
    rw [show readsOf plan_9_9 10 = [(60, 6)] from rfl]
    exact ld_P (R_q.keep hI.inv.keep (by simp)) _ rfl rfl fun u hu => ⟨hu, Ext.refl _⟩
  · intro L v w hL hD hC hI
    have hg : v 6 = .bool false := hI.inv.val 6 (hD 6 (by decide))
    refine ⟨fun _ => ?_, fun hw => by simp [wantedV, hg] at hw⟩
    have h6 : (v 6) = .bool (false) := hI.inv.val 6 (hD 6 (by decide))
    have h10 : (v 10) = .agg (pc (fb (Q).x) (fb (Q).y)) := hI.inv.val 10 (hD 10 (by decide))
    refine hI.ptv _ hL (by simp) rfl rfl (fun _ => trivial) ?_
    rw [show readsOf plan_9_9 11 = [(60, 6), (64, 10)] from rfl]
    refine give_call _ _ _ _ rfl rfl Try.func48 (by kernel_rfl) (by kernel_rfl) ?_
    refine Calls.mono (calls_eq (rin7 (P := Q) (tf_V_fb _) (tf_V_fb _) w) (args' := #[v 10]) (by rw [h10])) ?_
    rintro e w' ⟨r, rfl, hr, hx⟩
    exact ⟨r, rfl, hr, hx⟩
  · intro L v w hL hD hC hI
    have hg : v 6 = .bool false := hI.inv.val 6 (hD 6 (by decide))
    refine ⟨fun _ => ?_, fun hw => by simp [wantedV, hg] at hw⟩
    have h6 : (v 6) = .bool (false) := hI.inv.val 6 (hD 6 (by decide))
    refine hI.numv _ hL (by simp) rfl rfl (fun _ => trivial) ?_
    rw [show readsOf plan_9_9 12 = [(60, 6)] from rfl]
    exact ⟨hn_12.keep hI.inv.keep (by simp), Ext.refl _⟩
  · intro L v w hL hD hC hI
    have hg : v 6 = .bool false := hI.inv.val 6 (hD 6 (by decide))
    refine ⟨fun _ => ?_, fun hw => by simp [wantedV, hg] at hw⟩
    have h6 : (v 6) = .bool (false) := hI.inv.val 6 (hD 6 (by decide))
    have h9 : NP w (v 9) (P) := hI.num.p 9 _ (hD 9 (by decide)) rfl
    have h11 : NP w (v 11) (Q) := hI.num.p 11 _ (hD 11 (by decide)) rfl
    have h12 : NF w (v 12) (C7.d) := hI.num.n 12 _ (hD 12 (by decide)) rfl
    refine hI.ptv _ hL (by simp) rfl rfl (fun _ => trivial) ?_
    rw [show readsOf plan_9_9 13 = [(60, 6), (63, 9), (65, 11), (66, 12)] from rfl]
    refine give_call _ _ _ _ rfl rfl Try.func47 (by kernel_rfl) (by kernel_rfl) ?_
    refine Calls.mono (radd h9 h11 h12) ?_
    rintro e w' ⟨r, rfl, hr, hx⟩
    exact ⟨r, rfl, hr, hx⟩
  · intro L v w hL hD hC hI
    have hg : v 6 = .bool false := hI.inv.val 6 (hD 6 (by decide))
    refine ⟨fun _ => ?_, fun hw => by simp [wantedV, hg] at hw⟩
    have h6 : (v 6) = .bool (false) := hI.inv.val 6 (hD 6 (by decide))
    have h13 : NP w (v 13) ((P).add (Q)) := hI.num.p 13 _ (hD 13 (by decide)) rfl
    refine hI.val0 hL (by simp) rfl rfl ?_
    rw [show readsOf plan_9_9 14 = [(60, 6), (67, 13)] from rfl]
    refine give_call _ _ _ _ rfl rfl Try.func46 (by kernel_rfl) (by kernel_rfl) ?_
    refine Calls.mono (rout h13) ?_
    rintro e w' ⟨rfl, hx⟩
    exact ⟨_, rfl, rfl, hx⟩
  · intro L v w hL hD hC hI
    have hg : v 6 = .bool false := hI.inv.val 6 (hD 6 (by decide))
    refine ⟨fun _ => ?_, fun hw => by simp [wantedV, hg] at hw⟩
    have h6 : (v 6) = .bool (false) := hI.inv.val 6 (hD 6 (by decide))
    have h7 : (v 7) = .agg (pc (fb ((P).add (Q)).x) (fb ((P).add (Q)).y)) := hI.inv.val 7 (hD 7 (by decide))
    have h14 : (v 14) = .agg (pc (fb ((P).add (Q)).x) (fb ((P).add (Q)).y)) := hI.inv.val 14 (hD 14 (by decide))
    refine hI.val0 hL (by simp) rfl rfl ?_
    rw [show readsOf plan_9_9 15 = [(60, 6), (61, 7), (68, 14)] from rfl]
    exact give_neP _ _ _ _ _ _ _ rfl h7 h14 ⟨by simp [beqb_self], Ext.refl _⟩
  · intro L v w hL hD hC hI
    refine ⟨fun _ => ?_, fun hw => by cases hw⟩
    have h6 : (v 6) = .bool (false) := hI.inv.val 6 (hD 6 (by decide))
    have h15 : (v 15) = .bool (false) := hI.inv.val 15 (hD 15 (by decide))
    refine hI.val0 hL (by simp) rfl rfl ?_
    rw [show readsOf plan_9_9 16 = [(60, 6), (69, 15)] from rfl]
    exact give_pick_f _ _ _ rfl h6 ⟨h15, Ext.refl _⟩
  · intro L v w hL hD hC hI
    refine ⟨fun _ => ?_, fun hw => by cases hw⟩
    have h16 : (v 16) = .bool (false) := hI.inv.val 16 (hD 16 (by decide))
    refine hI.val0 hL (by simp) rfl rfl ?_
    rw [show readsOf plan_9_9 17 = [(70, 16)] from rfl]
    exact ⟨h16, Ext.refl _⟩
  · intro L v w hL hD hC hI
    have hg : v 17 = .bool false := hI.inv.val 17 (hD 17 (by decide))
    refine ⟨fun _ => ?_, fun hw => by simp [wantedV, hg] at hw⟩
    have h17 : (v 17) = .bool (false) := hI.inv.val 17 (hD 17 (by decide))
    refine hI.val0 hL (by simp) rfl rfl ?_
    rw [show readsOf plan_9_9 18 = [(71, 17)] from rfl]
    exact ld_P (R_n.keep hI.inv.keep (by simp)) _ rfl rfl fun u hu => ⟨hu, Ext.refl _⟩
  · intro L v w hL hD hC hI
    have hg : v 17 = .bool false := hI.inv.val 17 (hD 17 (by decide))
    refine ⟨fun _ => ?_, fun hw => by simp [wantedV, hg] at hw⟩
    have h17 : (v 17) = .bool (false) := hI.inv.val 17 (hD 17 (by decide))
    refine hI.val0 hL (by simp) rfl rfl ?_
    rw [show readsOf plan_9_9 19 = [(71, 17)] from rfl]
    exact ld_P (R_p.keep hI.inv.keep (by simp)) _ rfl rfl fun u hu => ⟨hu, Ext.refl _⟩
  · intro L v w hL hD hC hI
    have hg : v 17 = .bool false := hI.inv.val 17 (hD 17 (by decide))
    refine ⟨fun _ => ?_, fun hw => by simp [wantedV, hg] at hw⟩
    have h17 : (v 17) = .bool (false) := hI.inv.val 17 (hD 17 (by decide))
    have h19 : (v 19) = .agg (pc (fb (P).x) (fb (P).y)) := hI.inv.val 19 (hD 19 (by decide))
    refine hI.val0 hL (by simp) rfl rfl ?_
    rw [show readsOf plan_9_9 20 = [(71, 17), (73, 19)] from rfl]
    refine give_call _ _ _ _ rfl rfl Try.func49 (by kernel_rfl) (by kernel_rfl) ?_
    refine Calls.mono (calls_eq (rneg_pt (P := P) (tf_V_fb _) (tf_V_fb _) w) (args' := #[v 19]) (by rw [h19])) ?_
    rintro e w' ⟨rfl, hx⟩
    exact ⟨_, rfl, rfl, hx⟩
  · intro L v w hL hD hC hI
    have hg : v 17 = .bool false := hI.inv.val 17 (hD 17 (by decide))
    refine ⟨fun _ => ?_, fun hw => by simp [wantedV, hg] at hw⟩
    have h17 : (v 17) = .bool (false) := hI.inv.val 17 (hD 17 (by decide))
    have h18 : (v 18) = .agg (pc (fb ((P).neg).x) (fb ((P).neg).y)) := hI.inv.val 18 (hD 18 (by decide))
    have h20 : (v 20) = .agg (pc (fb ((P).neg).x) (fb ((P).neg).y)) := hI.inv.val 20 (hD 20 (by decide))
    refine hI.val0 hL (by simp) rfl rfl ?_
    rw [show readsOf plan_9_9 21 = [(71, 17), (72, 18), (74, 20)] from rfl]
    exact give_neP _ _ _ _ _ _ _ rfl h18 h20 ⟨by simp [beqb_self], Ext.refl _⟩
  · intro L v w hL hD hC hI
    refine ⟨fun _ => ?_, fun hw => by cases hw⟩
    have h17 : (v 17) = .bool (false) := hI.inv.val 17 (hD 17 (by decide))
    have h21 : (v 21) = .bool (false) := hI.inv.val 21 (hD 21 (by decide))
    refine hI.val0 hL (by simp) rfl rfl ?_
    rw [show readsOf plan_9_9 22 = [(71, 17), (75, 21)] from rfl]
    exact give_pick_f _ _ _ rfl h17 ⟨h21, Ext.refl _⟩
  intro L v9 W9 hL hI
  replace R_k1 := R_k1.keep hI.inv.keep (by simp)
  replace R_k2 := R_k2.keep hI.inv.keep (by simp)
  replace R_raw := R_raw.keep hI.inv.keep (by simp)
  replace R_p := R_p.keep hI.inv.keep (by simp)
  replace R_q := R_q.keep hI.inv.keep (by simp)
  replace R_s := R_s.keep hI.inv.keep (by simp)
  replace R_n := R_n.keep hI.inv.keep (by simp)
  replace hn_12 := hn_12.keep hI.inv.keep (by simp)
  have hx' : Ext w W9 := hx.trans hI.inv.keep.to_ext
  have hs_54_9 : (v9 0) = .nilIface := hI.inv.val 0 (hL 0 (by decide))
  have hs_56_9 : (v9 2) = .bool (false) := hI.inv.val 2 (hL 2 (by decide))
  have hs_57_9 : (v9 3) = .nilIface := hI.inv.val 3 (hL 3 (by decide))
  have hs_60_9 : (v9 6) = .bool (false) := hI.inv.val 6 (hL 6 (by decide))
  have hs_71_9 : (v9 17) = .bool (false) := hI.inv.val 17 (hL 17 (by decide))
  have hs_76_9 : (v9 22) = .bool (false) := hI.inv.val 22 (hL 22 (by decide))
  clear hx hI hL hok L
  have hx := hx'
  clear hx'
  simp only [putP, Act.put, List.setIfInBounds_toArray, List.set_cons_zero, List.set_cons_succ, hs_54_9, hs_56_9, hs_57_9, hs_60_9, hs_71_9, hs_76_9]
  clear R_k1
  clear R_k2
  clear R_q
  clear R_s
  clear R_n
  go_upto_region 11 with fail
  by_cases hon : C7.on (tf (V rf)) (tf (V rg))
  · obtain ⟨S, hSx, hSy⟩ : ∃ S : P7, tf (V rf) = S.x ∧ tf (V rg) = S.y := ⟨⟨_, _, hon⟩, rfl, rfl⟩
    have hok : TrsOk [] W9.heap.size ([] : List Trk) := ⟨by simp, by simp, by simp, by simp⟩
    refine wp_region_text (InvN [] (fun j u => match j with | 0 => u = .agg (pc (rf) (rg)) | 1 => u = .bool (true) | 2 => u = .bool (true) | _ => True) (fun _ => none) (fun _ => none) [] W9) plan_9_11 [(77, 0), (78, 1), (17, 2)] 165 rfl (by kernel_rfl) (InvN.of (Inv.start0 hok (by simp))) ⟨?_, ?_, ?_, trivial⟩ ?_
    · intro L v w hL hD hC hI
      refine ⟨fun _ => ?_, fun hw => by cases hw⟩
      refine hI.val0 hL (by simp) rfl rfl ?_
      rw [show readsOf plan_9_11 0 = [] from rfl]
      exact ld_P (R_raw.keep hI.inv.keep (by simp)) _ rfl rfl fun u hu => ⟨hu, Ext.refl _⟩
    · intro L v w hL hD hC hI
      refine ⟨fun _ => ?_, fun hw => by cases hw⟩
      have h0 : (v 0) = .agg (pc (rf) (rg)) := hI.inv.val 0 (hD 0 (by decide))
      refine hI.val0 hL (by simp) rfl rfl ?_
      rw [show readsOf plan_9_11 1 = [(77, 0)] from rfl]
      refine give_call _ _ _ _ rfl rfl Try.func31 (by kernel_rfl) (by kernel_rfl) ?_
      refine Calls.mono (calls_eq (ris_t hon w) (args' := #[v 0]) (by rw [h0])) ?_
      rintro e w' ⟨rfl, hx⟩
      exact ⟨_, rfl, rfl, hx⟩
    · intro L v w hL hD hC hI
      refine ⟨fun _ => ?_, fun hw => by cases hw⟩
      have h1 : (v 1) = .bool (true) := hI.inv.val 1 (hD 1 (by decide))
      refine hI.val0 hL (by simp) rfl rfl ?_
      rw [show readsOf plan_9_11 2 = [(78, 1)] from rfl]
      exact ⟨h1, Ext.refl _⟩
    intro L v10 W10 hL hI
    replace R_raw := R_raw.keep hI.inv.keep (by simp)
    replace R_p := R_p.keep hI.inv.keep (by simp)
    replace hn_12 := hn_12.keep hI.inv.keep (by simp)
    have hx' : Ext w W10 := hx.trans hI.inv.keep.to_ext
    have hs_17_11 : (v10 2) = .bool (true) := hI.inv.val 2 (hL 2 (by decide))
    clear hx hI hL hok L
    have hx := hx'
    clear hx'
    simp only [putP, Act.put, List.setIfInBounds_toArray, List.set_cons_zero, List.set_cons_succ, hs_17_11]
    go_upto_region 12 with fail
    have hok : TrsOk [] W10.heap.size ([⟨some 6, 0, 43, some 7, fun cs => (Value.agg (List.toArray cs)) = .agg (pc (fun _ => 0) (fun _ => 0)), fun cs => (Value.agg (List.toArray cs)) = .agg (pc (fb ((P).add (S)).x) (fb ((P).add (S)).y))⟩] : List Trk) := ⟨by simp, by simp, by simp, by simp⟩
    refine wp_region_text (InvN [] (fun j u => match j with | 0 => u = .agg (pc (fb (P).x) (fb (P).y)) | 1 => u = .agg (pc (rf) (rg)) | 2 => u = .tuple #[.agg (pc (fb ((P).add (S)).x) (fb ((P).add (S)).y)), .nilIface] | 3 => u = .tuple #[.agg (pc (fb ((P).add (S)).x) (fb ((P).add (S)).y)), .nilIface] | 4 => u = .agg (pc (fb ((P).add (S)).x) (fb ((P).add (S)).y)) | 5 => u = .nilIface | 8 => u = .nilIface | _ => True) (fun _ => none) (fun _ => none) [⟨some 6, 0, 43, some 7, fun cs => (Value.agg (List.toArray cs)) = .agg (pc (fun _ => 0) (fun _ => 0)), fun cs => (Value.agg (List.toArray cs)) = .agg (pc (fb ((P).add (S)).x) (fb ((P).add (S)).y))⟩] W10) plan_9_12 [(80, 0), (81, 1), (82, 2), (79, 3), (83, 4), (84, 5), (18, 6), (19, 8)] 165 rfl (by kernel_rfl) (InvN.of (Inv.start0 hok (by simp))) ⟨?_, ?_, ?_, ?_, ?_, ?_, ?_, ?_, ?_, trivial⟩ ?_
    · intro L v w hL hD hC hI
      refine ⟨fun _ => ?_, fun hw => by cases hw⟩
      refine hI.val0 hL (by simp) rfl rfl ?_
      rw [show readsOf plan_9_12 0 = [] from rfl]
      exact ld_P (R_p.keep hI.inv.keep (by simp)) _ rfl rfl fun u hu => ⟨hu, Ext.refl _⟩
    · intro L v w hL hD hC hI
      refine ⟨fun _ => ?_, fun hw => by cases hw⟩
      refine hI.val0 hL (by simp) rfl rfl ?_
      rw [show readsOf plan_9_12 1 = [] from rfl]
      exact ld_P (R_raw.keep hI.inv.keep (by simp)) _ rfl rfl fun u hu => ⟨hu, Ext.refl _⟩
    · intro L v w hL hD hC hI
      refine ⟨fun _ => ?_, fun hw => by cases hw⟩
      have h0 : (v 0) = .agg (pc (fb (P).x) (fb (P).y)) := hI.inv.val 0 (hD 0 (by decide))
      have h1 : (v 1) = .agg (pc (rf) (rg)) := hI.inv.val 1 (hD 1 (by decide))
      refine hI.val0 hL (by simp) rfl rfl ?_
      rw [show readsOf plan_9_12 2 = [(80, 0), (81, 1)] from rfl]
      refine give_call _ _ _ _ rfl rfl Try.func44 (by kernel_rfl) (by kernel_rfl) ?_
      refine Calls.mono (calls_eq (add_on (P := P) (Q := S) (tf_V_fb _) (tf_V_fb _) hSx hSy w) (args' := #[v 0, v 1]) (by rw [h0, h1])) ?_
      rintro e w' ⟨rfl, hx⟩
      exact ⟨_, rfl, rfl, hx⟩
    · intro L v w hL hD hC hI
      refine ⟨fun _ => ?_, fun hw => by cases hw⟩
      have h2 : (v 2) = .tuple #[.agg (pc (fb ((P).add (S)).x) (fb ((P).add (S)).y)), .nilIface] := hI.inv.val 2 (hD 2 (by decide))
      refine hI.val0 hL (by simp) rfl rfl ?_
      rw [show readsOf plan_9_12 3 = [(82, 2)] from rfl]
      exact ⟨h2, Ext.refl _⟩
    · intro L v w hL hD hC hI
      refine ⟨fun _ => ?_, fun hw => by cases hw⟩
      have h3 : (v 3) = .tuple #[.agg (pc (fb ((P).add (S)).x) (fb ((P).add (S)).y)), .nilIface] := hI.inv.val 3 (hD 3 (by decide))
      refine hI.val0 hL (by simp) rfl rfl ?_
      rw [show readsOf plan_9_12 4 = [(79, 3)] from rfl]
      exact give_ext _ _ _ rfl h3 _ rfl ⟨rfl, Ext.refl _⟩
    · intro L v w hL hD hC hI
      refine ⟨fun _ => ?_, fun hw => by cases hw⟩
      have h3 : (v 3) = .tuple #[.agg (pc (fb ((P).add (S)).x) (fb ((P).add (S)).y)), .nilIface] := hI.inv.val 3 (hD 3 (by decide))
      refine hI.val0 hL (by simp) rfl rfl ?_
      rw [show readsOf plan_9_12 5 = [(79, 3)] from rfl]
      exact give_ext _ _ _ rfl h3 _ rfl ⟨rfl, Ext.refl _⟩
    · intro L v w hL hD hC hI
      refine ⟨fun _ => ?_, fun hw => by cases hw⟩
      refine InvN.alloc_step hok hI hL ⟨some 6, 0, 43, some 7, fun cs => (Value.agg (List.toArray cs)) = .agg (pc (fun _ => 0) (fun _ => 0)), fun cs => (Value.agg (List.toArray cs)) = .agg (pc (fb ((P).add (S)).x) (fb ((P).add (S)).y))⟩ (by simp) rfl (by simp) (by intro s hs; cases hs; exact not_yet hC hL (by decide)) rfl rfl ?_
      rw [show readsOf plan_9_12 6 = [] from rfl]
      go_simp
      first | exact ⟨rfl, pcL (fun _ => 0) (fun _ => 0), rfl, rfl⟩ | exact ⟨trivial, rfl, pcL (fun _ => 0) (fun _ => 0), rfl, rfl⟩ | exact ⟨rfl, (bcells fun _ => 0).toList, by rw [Array.toArray_toList], by rw [Array.toArray_toList]⟩
    · intro L v w hL hD hC hI
      refine ⟨fun _ => ?_, fun hw => by cases hw⟩
      have h4 : (v 4) = .agg (pc (fb ((P).add (S)).x) (fb ((P).add (S)).y)) := hI.inv.val 4 (hD 4 (by decide))
      refine InvN.store_step hok hI hL ⟨some 6, 0, 43, some 7, fun cs => (Value.agg (List.toArray cs)) = .agg (pc (fun _ => 0) (fun _ => 0)), fun cs => (Value.agg (List.toArray cs)) = .agg (pc (fb ((P).add (S)).x) (fb ((P).add (S)).y))⟩ (by simp) rfl (by simp) (by intro k hk; cases hk; exact hD 6 (by decide)) rfl rfl (fun cs h => by rw [pcL_of h]; exact noI_pc _ _) ?_
      intro n cs hb hR hold
      change v 6 = .pointer (some ⟨n, 0, none⟩) at hb
      rw [show readsOf plan_9_12 7 = [(83, 4), (18, 6)] from rfl]
      exact st_P hR (by rw [pcL_of hold]; exact pcL_len _ _) _ _ rfl hb h4 fun w' cs' hr he hk => ⟨trivial, hk, cs', hr, he⟩
    · intro L v w hL hD hC hI
      refine ⟨fun _ => ?_, fun hw => by cases hw⟩
      have h5 : (v 5) = .nilIface := hI.inv.val 5 (hD 5 (by decide))
      refine hI.val0 hL (by simp) rfl rfl ?_
      rw [show readsOf plan_9_12 8 = [(84, 5)] from rfl]
      exact ⟨h5, Ext.refl _⟩
    intro L v11 W11 hL hI
    obtain ⟨t, cs, hb_t, lo_t, hr, hn, ho⟩ := hI.inv.row_made ⟨some 6, 0, 43, some 7, fun cs => (Value.agg (List.toArray cs)) = .agg (pc (fun _ => 0) (fun _ => 0)), fun cs => (Value.agg (List.toArray cs)) = .agg (pc (fb ((P).add (S)).x) (fb ((P).add (S)).y))⟩ (by simp) 6 rfl (hL 6 (by decide))
    have R_t : RV W11 t 43 (fun u => u = .agg (pc (fb ((P).add (S)).x) (fb ((P).add (S)).y))) := ⟨cs, hr, hn 7 rfl (hL 7 (by decide))⟩
    clear hr hn ho
    replace R_raw := R_raw.keep hI.inv.keep (by simp)
    replace R_p := R_p.keep hI.inv.keep (by simp)
    replace hn_12 := hn_12.keep hI.inv.keep (by simp)
    have hx' : Ext w W11 := hx.trans hI.inv.keep.to_ext
    have hs_19_12 : (v11 8) = .nilIface := hI.inv.val 8 (hL 8 (by decide))
    clear hx hI hL hok L
    have hx := hx'
    clear hx'
    simp only [putP, Act.put, List.setIfInBounds_toArray, List.set_cons_zero, List.set_cons_succ, hb_t, hs_19_12]
    go_upto_region 13 with fail
    have hok : TrsOk [] W11.heap.size ([⟨some 6, 0, 43, some 7, fun cs => (Value.agg (List.toArray cs)) = .agg (pc (fun _ => 0) (fun _ => 0)), fun cs => (Value.agg (List.toArray cs)) = .agg (pc (fb ((P).add (S)).x) (fb ((P).add (S)).y))⟩] : List Trk) := ⟨by simp, by simp, by simp, by simp⟩
    refine wp_region_text (InvN [] (fun j u => match j with | 0 => u = .agg (pc (rf) (rg)) | 1 => u = .agg (pc (fb (P).x) (fb (P).y)) | 2 => u = .tuple #[.agg (pc (fb ((P).add (S)).x) (fb ((P).add (S)).y)), .nilIface] | 3 => u = .tuple #[.agg (pc (fb ((P).add (S)).x) (fb ((P).add (S)).y)), .nilIface] | 4 => u = .agg (pc (fb ((P).add (S)).x) (fb ((P).add (S)).y)) | 5 => u = .nilIface | 8 => u = .nilIface | _ => True) (fun _ => none) (fun _ => none) [⟨some 6, 0, 43, some 7, fun cs => (Value.agg (List.toArray cs)) = .agg (pc (fun _ => 0) (fun _ => 0)), fun cs => (Value.agg (List.toArray cs)) = .agg (pc (fb ((P).add (S)).x) (fb ((P).add (S)).y))⟩] W11) plan_9_13 [(86, 0), (87, 1), (88, 2), (85, 3), (89, 4), (90, 5), (20, 6), (21, 8)] 165 rfl (by kernel_rfl) (InvN.of (Inv.start0 hok (by simp))) ⟨?_, ?_, ?_, ?_, ?_, ?_, ?_, ?_, ?_, trivial⟩ ?_
    · intro L v w hL hD hC hI
      refine ⟨fun _ => ?_, fun hw => by cases hw⟩
      refine hI.val0 hL (by simp) rfl rfl ?_
      rw [show readsOf plan_9_13 0 = [] from rfl]
      exact ld_P (R_raw.keep hI.inv.keep (by simp)) _ rfl rfl fun u hu => ⟨hu, Ext.refl _⟩
    · intro L v w hL hD hC hI
      refine ⟨fun _ => ?_, fun hw => by cases hw⟩
      refine hI.val0 hL (by simp) rfl rfl ?_
      rw [show readsOf plan_9_13 1 = [] from rfl]
      exact ld_P (R_p.keep hI.inv.keep (by simp)) _ rfl rfl fun u hu => ⟨hu, Ext.refl _⟩
    · intro L v w hL hD hC hI
      refine ⟨fun _ => ?_, fun hw => by cases hw⟩
      have h0 : (v 0) = .agg (pc (rf) (rg)) := hI.inv.val 0 (hD 0 (by decide))
      have h1 : (v 1) = .agg (pc (fb (P).x) (fb (P).y)) := hI.inv.val 1 (hD 1 (by decide))
      refine hI.val0 hL (by simp) rfl rfl ?_
      rw [show readsOf plan_9_13 2 = [(86, 0), (87, 1)] from rfl]
      refine give_call _ _ _ _ rfl rfl Try.func44 (by kernel_rfl) (by kernel_rfl) ?_
      refine Calls.mono (calls_eq (add_comm_p (P := P) (Q := S) hSx hSy (tf_V_fb _) (tf_V_fb _) w) (args' := #[v 0, v 1]) (by rw [h0, h1])) ?_
      rintro e w' ⟨rfl, hx⟩
      exact ⟨_, rfl, rfl, hx⟩
    · intro L v w hL hD hC hI
      refine ⟨fun _ => ?_, fun hw => by cases hw⟩
      have h2 : (v 2) = .tuple #[.agg (pc (fb ((P).add (S)).x) (fb ((P).add (S)).y)), .nilIface] := hI.inv.val 2 (hD 2 (by decide))
      refine hI.val0 hL (by simp) rfl rfl ?_
      rw [show readsOf plan_9_13 3 = [(88, 2)] from rfl]
      exact ⟨h2, Ext.refl _⟩
    · intro L v w hL hD hC hI
      refine ⟨fun _ => ?_, fun hw => by cases hw⟩
      have h3 : (v 3) = .tuple #[.agg (pc (fb ((P).add (S)).x) (fb ((P).add (S)).y)), .nilIface] := hI.inv.val 3 (hD 3 (by decide))
      refine hI.val0 hL (by simp) rfl rfl ?_
      rw [show readsOf plan_9_13 4 = [(85, 3)] from rfl]
      exact give_ext _ _ _ rfl h3 _ rfl ⟨rfl, Ext.refl _⟩
    · intro L v w hL hD hC hI
      refine ⟨fun _ => ?_, fun hw => by cases hw⟩
      have h3 : (v 3) = .tuple #[.agg (pc (fb ((P).add (S)).x) (fb ((P).add (S)).y)), .nilIface] := hI.inv.val 3 (hD 3 (by decide))
      refine hI.val0 hL (by simp) rfl rfl ?_
      rw [show readsOf plan_9_13 5 = [(85, 3)] from rfl]
      exact give_ext _ _ _ rfl h3 _ rfl ⟨rfl, Ext.refl _⟩
    · intro L v w hL hD hC hI
      refine ⟨fun _ => ?_, fun hw => by cases hw⟩
      refine InvN.alloc_step hok hI hL ⟨some 6, 0, 43, some 7, fun cs => (Value.agg (List.toArray cs)) = .agg (pc (fun _ => 0) (fun _ => 0)), fun cs => (Value.agg (List.toArray cs)) = .agg (pc (fb ((P).add (S)).x) (fb ((P).add (S)).y))⟩ (by simp) rfl (by simp) (by intro s hs; cases hs; exact not_yet hC hL (by decide)) rfl rfl ?_
      rw [show readsOf plan_9_13 6 = [] from rfl]
      go_simp
      first | exact ⟨rfl, pcL (fun _ => 0) (fun _ => 0), rfl, rfl⟩ | exact ⟨trivial, rfl, pcL (fun _ => 0) (fun _ => 0), rfl, rfl⟩ | exact ⟨rfl, (bcells fun _ => 0).toList, by rw [Array.toArray_toList], by rw [Array.toArray_toList]⟩
    · intro L v w hL hD hC hI
      refine ⟨fun _ => ?_, fun hw => by cases hw⟩
      have h4 : (v 4) = .agg (pc (fb ((P).add (S)).x) (fb ((P).add (S)).y)) := hI.inv.val 4 (hD 4 (by decide))
      refine InvN.store_step hok hI hL ⟨some 6, 0, 43, some 7, fun cs => (Value.agg (List.toArray cs)) = .agg (pc (fun _ => 0) (fun _ => 0)), fun cs => (Value.agg (List.toArray cs)) = .agg (pc (fb ((P).add (S)).x) (fb ((P).add (S)).y))⟩ (by simp) rfl (by simp) (by intro k hk; cases hk; exact hD 6 (by decide)) rfl rfl (fun cs h => by rw [pcL_of h]; exact noI_pc _ _) ?_
      intro n cs hb hR hold
      change v 6 = .pointer (some ⟨n, 0, none⟩) at hb
      rw [show readsOf plan_9_13 7 = [(89, 4), (20, 6)] from rfl]
      exact st_P hR (by rw [pcL_of hold]; exact pcL_len _ _) _ _ rfl hb h4 fun w' cs' hr he hk => ⟨trivial, hk, cs', hr, he⟩
    · intro L v w hL hD hC hI
      refine ⟨fun _ => ?_, fun hw => by cases hw⟩
      have h5 : (v 5) = .nilIface := hI.inv.val 5 (hD 5 (by decide))
      refine hI.val0 hL (by simp) rfl rfl ?_
      rw [show readsOf plan_9_13 8 = [(90, 5)] from rfl]
      exact ⟨h5, Ext.refl _⟩
    intro L v12 W12 hL hI
    obtain ⟨u_, cs, hb_u_, lo_u_, hr, hn, ho⟩ := hI.inv.row_made ⟨some 6, 0, 43, some 7, fun cs => (Value.agg (List.toArray cs)) = .agg (pc (fun _ => 0) (fun _ => 0)), fun cs => (Value.agg (List.toArray cs)) = .agg (pc (fb ((P).add (S)).x) (fb ((P).add (S)).y))⟩ (by simp) 6 rfl (hL 6 (by decide))
    have R_u_ : RV W12 u_ 43 (fun u => u = .agg (pc (fb ((P).add (S)).x) (fb ((P).add (S)).y))) := ⟨cs, hr, hn 7 rfl (hL 7 (by decide))⟩
    clear hr hn ho
    replace R_raw := R_raw.keep hI.inv.keep (by simp)
    replace R_p := R_p.keep hI.inv.keep (by simp)
    replace R_t := R_t.keep hI.inv.keep (by simp)
    replace hn_12 := hn_12.keep hI.inv.keep (by simp)
    have hx' : Ext w W12 := hx.trans hI.inv.keep.to_ext
    have hs_21_13 : (v12 8) = .nilIface := hI.inv.val 8 (hL 8 (by decide))
    clear hx hI hL hok L
    have hx := hx'
    clear hx'
    simp only [putP, Act.put, List.setIfInBounds_toArray, List.set_cons_zero, List.set_cons_succ, hb_u_, hs_21_13]
    go_upto_region 14 with fail
    have hok : TrsOk [] W12.heap.size ([⟨some 5, 0, 43, some 6, fun cs => (Value.agg (List.toArray cs)) = .agg (pc (fun _ => 0) (fun _ => 0)), fun cs => (Value.agg (List.toArray cs)) = .agg (pc (fb ((S).neg).x) (fb ((S).neg).y))⟩] : List Trk) := ⟨by simp, by simp, by simp, by simp⟩
    refine wp_region_text (InvN [] (fun j u => match j with | 0 => u = .agg (pc (rf) (rg)) | 1 => u = .tuple #[.agg (pc (fb ((S).neg).x) (fb ((S).neg).y)), .nilIface] | 2 => u = .tuple #[.agg (pc (fb ((S).neg).x) (fb ((S).neg).y)), .nilIface] | 3 => u = .agg (pc (fb ((S).neg).x) (fb ((S).neg).y)) | 4 => u = .nilIface | 7 => u = .nilIface | _ => True) (fun _ => none) (fun _ => none) [⟨some 5, 0, 43, some 6, fun cs => (Value.agg (List.toArray cs)) = .agg (pc (fun _ => 0) (fun _ => 0)), fun cs => (Value.agg (List.toArray cs)) = .agg (pc (fb ((S).neg).x) (fb ((S).neg).y))⟩] W12) plan_9_14 [(92, 0), (93, 1), (91, 2), (94, 3), (95, 4), (22, 5), (23, 7)] 165 rfl (by kernel_rfl) (InvN.of (Inv.start0 hok (by simp))) ⟨?_, ?_, ?_, ?_, ?_, ?_, ?_, ?_, trivial⟩ ?_
    · intro L v w hL hD hC hI
      refine ⟨fun _ => ?_, fun hw => by cases hw⟩
      refine hI.val0 hL (by simp) rfl rfl ?_
      rw [show readsOf plan_9_14 0 = [] from rfl]
      exact ld_P (R_raw.keep hI.inv.keep (by simp)) _ rfl rfl fun u hu => ⟨hu, Ext.refl _⟩
    · intro L v w hL hD hC hI
      refine ⟨fun _ => ?_, fun hw => by cases hw⟩
      have h0 : (v 0) = .agg (pc (rf) (rg)) := hI.inv.val 0 (hD 0 (by decide))
      refine hI.val0 hL (by simp) rfl rfl ?_
      rw [show readsOf plan_9_14 1 = [(92, 0)] from rfl]
      refine give_call _ _ _ _ rfl rfl Try.func45 (by kernel_rfl) (by kernel_rfl) ?_
      refine Calls.mono (calls_eq (neg_p2 (P := S) hSx hSy w) (args' := #[v 0]) (by rw [h0])) ?_
      rintro e w' ⟨rfl, hx⟩
      exact ⟨_, rfl, rfl, hx⟩
    · intro L v w hL hD hC hI
      refine ⟨fun _ => ?_, fun hw => by cases hw⟩
      have h1 : (v 1) = .tuple #[.agg (pc (fb ((S).neg).x) (fb ((S).neg).y)), .nilIface] := hI.inv.val 1 (hD 1 (by decide))
      refine hI.val0 hL (by simp) rfl rfl ?_
      rw [show readsOf plan_9_14 2 = [(93, 1)] from rfl]
      exact ⟨h1, Ext.refl _⟩
    · intro L v w hL hD hC hI
      refine ⟨fun _ => ?_, fun hw => by cases hw⟩
      have h2 : (v 2) = .tuple #[.agg (pc (fb ((S).neg).x) (fb ((S).neg).y)), .nilIface] := hI.inv.val 2 (hD 2 (by decide))
      refine hI.val0 hL (by simp) rfl rfl ?_
      rw [show readsOf plan_9_14 3 = [(91, 2)] from rfl]
      exact give_ext _ _ _ rfl h2 _ rfl ⟨rfl, Ext.refl _⟩
    · intro L v w hL hD hC hI
      refine ⟨fun _ => ?_, fun hw => by cases hw⟩
      have h2 : (v 2) = .tuple #[.agg (pc (fb ((S).neg).x) (fb ((S).neg).y)), .nilIface] := hI.inv.val 2 (hD 2 (by decide))
      refine hI.val0 hL (by simp) rfl rfl ?_
      rw [show readsOf plan_9_14 4 = [(91, 2)] from rfl]
      exact give_ext _ _ _ rfl h2 _ rfl ⟨rfl, Ext.refl _⟩
    · intro L v w hL hD hC hI
      refine ⟨fun _ => ?_, fun hw => by cases hw⟩
      refine InvN.alloc_step hok hI hL ⟨some 5, 0, 43, some 6, fun cs => (Value.agg (List.toArray cs)) = .agg (pc (fun _ => 0) (fun _ => 0)), fun cs => (Value.agg (List.toArray cs)) = .agg (pc (fb ((S).neg).x) (fb ((S).neg).y))⟩ (by simp) rfl (by simp) (by intro s hs; cases hs; exact not_yet hC hL (by decide)) rfl rfl ?_
      rw [show readsOf plan_9_14 5 = [] from rfl]
      go_simp
      first | exact ⟨rfl, pcL (fun _ => 0) (fun _ => 0), rfl, rfl⟩ | exact ⟨trivial, rfl, pcL (fun _ => 0) (fun _ => 0), rfl, rfl⟩ | exact ⟨rfl, (bcells fun _ => 0).toList, by rw [Array.toArray_toList], by rw [Array.toArray_toList]⟩
    · intro L v w hL hD hC hI
      refine ⟨fun _ => ?_, fun hw => by cases hw⟩
      have h3 : (v 3) = .agg (pc (fb ((S).neg).x) (fb ((S).neg).y)) := hI.inv.val 3 (hD 3 (by decide))
      refine InvN.store_step hok hI hL ⟨some 5, 0, 43, some 6, fun cs => (Value.agg (List.toArray cs)) = .agg (pc (fun _ => 0) (fun _ => 0)), fun cs => (Value.agg (List.toArray cs)) = .agg (pc (fb ((S).neg).x) (fb ((S).neg).y))⟩ (by simp) rfl (by simp) (by intro k hk; cases hk; exact hD 5 (by decide)) rfl rfl (fun cs h => by rw [pcL_of h]; exact noI_pc _ _) ?_
      intro n cs hb hR hold
      change v 5 = .pointer (some ⟨n, 0, none⟩) at hb
      rw [show readsOf plan_9_14 6 = [(94, 3), (22, 5)] from rfl]
      exact st_P hR (by rw [pcL_of hold]; exact pcL_len _ _) _ _ rfl hb h3 fun w' cs' hr he hk => ⟨trivial, hk, cs', hr, he⟩
    · intro L v w hL hD hC hI
      refine ⟨fun _ => ?_, fun hw => by cases hw⟩
      have h4 : (v 4) = .nilIface := hI.inv.val 4 (hD 4 (by decide))
      refine hI.val0 hL (by simp) rfl rfl ?_
      rw [show readsOf plan_9_14 7 = [(95, 4)] from rfl]
      exact ⟨h4, Ext.refl _⟩
    intro L v13 W13 hL hI
    obtain ⟨m, cs, hb_m, lo_m, hr, hn, ho⟩ := hI.inv.row_made ⟨some 5, 0, 43, some 6, fun cs => (Value.agg (List.toArray cs)) = .agg (pc (fun _ => 0) (fun _ => 0)), fun cs => (Value.agg (List.toArray cs)) = .agg (pc (fb ((S).neg).x) (fb ((S).neg).y))⟩ (by simp) 5 rfl (hL 5 (by decide))
    have R_m : RV W13 m 43 (fun u => u = .agg (pc (fb ((S).neg).x) (fb ((S).neg).y))) := ⟨cs, hr, hn 6 rfl (hL 6 (by decide))⟩
    clear hr hn ho
    replace R_raw := R_raw.keep hI.inv.keep (by simp)
    replace R_p := R_p.keep hI.inv.keep (by simp)
    replace R_t := R_t.keep hI.inv.keep (by simp)
    replace R_u_ := R_u_.keep hI.inv.keep (by simp)
    replace hn_12 := hn_12.keep hI.inv.keep (by simp)
    have hx' : Ext w W13 := hx.trans hI.inv.keep.to_ext
    have hs_23_14 : (v13 7) = .nilIface := hI.inv.val 7 (hL 7 (by decide))
    clear hx hI hL hok L
    have hx := hx'
    clear hx'
    simp only [putP, Act.put, List.setIfInBounds_toArray, List.set_cons_zero, List.set_cons_succ, hb_m, hs_23_14]
    go_upto_region 15 with fail
    have hok : TrsOk [] W13.heap.size ([] : List Trk) := ⟨by simp, by simp, by simp, by simp⟩
    refine wp_region_text (InvN [] (fun j u => match j with | 0 => u = .bool (true) | 1 => u = .bool (false) | _ => True) (fun _ => none) (fun _ => none) [] W13) plan_9_15 [(96, 0), (97, 1)] 165 rfl (by kernel_rfl) (InvN.of (Inv.start0 hok (by simp))) ⟨?_, ?_, trivial⟩ ?_
    · intro L v w hL hD hC hI
      refine ⟨fun _ => ?_, fun hw => by cases hw⟩
      refine hI.val0 hL (by simp) rfl rfl ?_
      rw [show readsOf plan_9_15 0 = [] from rfl]
      first | exact ⟨rfl, Ext.refl _⟩ | (go_simp; exact ⟨rfl, Ext.refl _⟩)
    · intro L v w hL hD hC hI
      refine ⟨fun _ => ?_, fun hw => by cases hw⟩
      have h0 : (v 0) = .bool (true) := hI.inv.val 0 (hD 0 (by decide))
      refine hI.val0 hL (by simp) rfl rfl ?_
      rw [show readsOf plan_9_15 1 = [(96, 0)] from rfl]
      exact give_not _ _ rfl h0 ⟨rfl, Ext.refl _⟩
    intro L v14 W14 hL hI
    replace R_raw := R_raw.keep hI.inv.keep (by simp)
    replace R_p := R_p.keep hI.inv.keep (by simp)
    replace R_t := R_t.keep hI.inv.keep (by simp)
    replace R_u_ := R_u_.keep hI.inv.keep (by simp)
    replace R_m := R_m.keep hI.inv.keep (by simp)
    replace hn_12 := hn_12.keep hI.inv.keep (by simp)
    have hx' : Ext w W14 := hx.trans hI.inv.keep.to_ext
    have hs_96_15 : (v14 0) = .bool (true) := hI.inv.val 0 (hL 0 (by decide))
    have hs_97_15 : (v14 1) = .bool (false) := hI.inv.val 1 (hL 1 (by decide))
    clear hx hI hL hok L
    have hx := hx'
    clear hx'
    simp only [putP, Act.put, List.setIfInBounds_toArray, List.set_cons_zero, List.set_cons_succ, hs_96_15, hs_97_15]
    go_upto_region 17 with fail
    have hok : TrsOk [] W14.heap.size ([⟨some 7, 0, 43, some 8, fun cs => (Value.agg (List.toArray cs)) = .agg (pc (fun _ => 0) (fun _ => 0)), fun cs => (Value.agg (List.toArray cs)) = .agg (pc (fb ((P).add (S)).x) (fb ((P).add (S)).y))⟩] : List Trk) := ⟨by simp, by simp, by simp, by simp⟩
    refine wp_region_plan (InvN [] (fun j u => match j with | 0 => u = .agg (pc (fb (P).x) (fb (P).y)) | 2 => u = .agg (pc (rf) (rg)) | 6 => u = .agg (pc (fb ((P).add (S)).x) (fb ((P).add (S)).y)) | _ => True) (fun j => match j with | 4 => some (C7.d) | _ => none) (fun j => match j with | 1 => some (P) | 3 => some (S) | 5 => some ((P).add (S)) | _ => none) [⟨some 7, 0, 43, some 8, fun cs => (Value.agg (List.toArray cs)) = .agg (pc (fun _ => 0) (fun _ => 0)), fun cs => (Value.agg (List.toArray cs)) = .agg (pc (fb ((P).add (S)).x) (fb ((P).add (S)).y))⟩] W14) plan_9_17 [(129, 0), (130, 1), (131, 2), (132, 3), (133, 4), (134, 5), (135, 6), (24, 7)] 165 (by kernel_rfl) rfl (by kernel_rfl) (InvN.of (Inv.start hok (by simp))) ⟨?_, ?_, ?_, ?_, ?_, ?_, ?_, ?_, ?_, trivial⟩ ?_
    · intro L v w hL hD hC hI
      refine ⟨fun _ => ?_, fun hw => by cases hw⟩
      refine hI.val0 hL (by simp) rfl rfl ?_
      rw [show readsOf plan_9_17 0 = [] from rfl]
      exact ld_P (R_p.keep hI.inv.keep (by simp)) _ rfl rfl fun u hu => ⟨hu, Ext.refl _⟩
    · intro L v w hL hD hC hI
      refine ⟨fun _ => ?_, fun hw => by cases hw⟩
      have h0 : (v 0) = .agg (pc (fb (P).x) (fb (P).y)) := hI.inv.val 0 (hD 0 (by decide))
      refine hI.ptv _ hL (by simp) rfl rfl (fun _ => trivial) ?_
      rw [show readsOf plan_9_17 1 = [(129, 0)] from rfl]
      refine give_call _ _ _ _ rfl rfl Try.func48 (by kernel_rfl) (by kernel_rfl) ?_
      refine Calls.mono (calls_eq (rin7 (P := P) (tf_V_fb _) (tf_V_fb _) w) (args' := #[v 0]) (by rw [h0])) ?_
      rintro e w' ⟨r, rfl, hr, hx⟩
      exact ⟨r, rfl, hr, hx⟩
    · intro L v w hL hD hC hI
      refine ⟨fun _ => ?_, fun hw => by cases hw⟩
      refine hI.val0 hL (by simp) rfl rfl ?_
      rw [show readsOf plan_9_17 2 = [] from rfl]
      exact ld_P (R_raw.keep hI.inv.keep (by simp)) _ rfl rfl fun u hu => ⟨hu, Ext.refl _⟩
    · intro L v w hL hD hC hI
      refine ⟨fun _ => ?_, fun hw => by cases hw⟩
      have h2 : (v 2) = .agg (pc (rf) (rg)) := hI.inv.val 2 (hD 2 (by decide))
      refine hI.ptv _ hL (by simp) rfl rfl (fun _ => trivial) ?_
      rw [show readsOf plan_9_17 3 = [(131, 2)] from rfl]
      refine give_call _ _ _ _ rfl rfl Try.func48 (by kernel_rfl) (by kernel_rfl) ?_
      refine Calls.mono (calls_eq (rin7 (P := S) hSx hSy w) (args' := #[v 2]) (by rw [h2])) ?_
      rintro e w' ⟨r, rfl, hr, hx⟩
      exact ⟨r, rfl, hr, hx⟩
    · intro L v w hL hD hC hI
      refine ⟨fun _ => ?_, fun hw => by cases hw⟩
      refine hI.numv _ hL (by simp) rfl rfl (fun _ => trivial) ?_
      rw [show readsOf plan_9_17 4 = [] from rfl]
      exact ⟨hn_12.keep hI.inv.keep (by simp), Ext.refl _⟩
    · intro L v w hL hD hC hI
      refine ⟨fun _ => ?_, fun hw => by cases hw⟩
      have h1 : NP w (v 1) (P) := hI.num.p 1 _ (hD 1 (by decide)) rfl
      have h3 : NP w (v 3) (S) := hI.num.p 3 _ (hD 3 (by decide)) rfl
      have h4 : NF w (v 4) (C7.d) := hI.num.n 4 _ (hD 4 (by decide)) rfl
      refine hI.ptv _ hL (by simp) rfl rfl (fun _ => trivial) ?_
      rw [show readsOf plan_9_17 5 = [(130, 1), (132, 3), (133, 4)] from rfl]
      refine give_call _ _ _ _ rfl rfl Try.func47 (by kernel_rfl) (by kernel_rfl) ?_
      refine Calls.mono (radd h1 h3 h4) ?_
      rintro e w' ⟨r, rfl, hr, hx⟩
      exact ⟨r, rfl, hr, hx⟩
    · intro L v w hL hD hC hI
      refine ⟨fun _ => ?_, fun hw => by cases hw⟩
      have h5 : NP w (v 5) ((P).add (S)) := hI.num.p 5 _ (hD 5 (by decide)) rfl
      refine hI.val0 hL (by simp) rfl rfl ?_
      rw [show readsOf plan_9_17 6 = [(134, 5)] from rfl]
      refine give_call _ _ _ _ rfl rfl Try.func46 (by kernel_rfl) (by kernel_rfl) ?_
      refine Calls.mono (rout h5) ?_
      rintro e w' ⟨rfl, hx⟩
      exact ⟨_, rfl, rfl, hx⟩
    · intro L v w hL hD hC hI
      refine ⟨fun _ => ?_, fun hw => by cases hw⟩
      refine InvN.alloc_step hok hI hL ⟨some 7, 0, 43, some 8, fun cs => (Value.agg (List.toArray cs)) = .agg (pc (fun _ => 0) (fun _ => 0)), fun cs => (Value.agg (List.toArray cs)) = .agg (pc (fb ((P).add (S)).x) (fb ((P).add (S)).y))⟩ (by simp) rfl (by simp) (by intro s hs; cases hs; exact not_yet hC hL (by decide)) rfl rfl ?_
      rw [show readsOf plan_9_17 7 = [] from rfl]
      go_simp
      first | exact ⟨rfl, pcL (fun _ => 0) (fun _ => 0), rfl, rfl⟩ | exact ⟨trivial, rfl, pcL (fun _ => 0) (fun _ => 0), rfl, rfl⟩ | exact ⟨rfl, (bcells fun _ => 0).toList, by rw [Array.toArray_toList], by rw [Array.toArray_toList]⟩
    · intro L v w hL hD hC hI
      refine ⟨fun _ => ?_, fun hw => by cases hw⟩
      have h6 : (v 6) = .agg (pc (fb ((P).add (S)).x) (fb ((P).add (S)).y)) := hI.inv.val 6 (hD 6 (by decide))
      refine InvN.store_step hok hI hL ⟨some 7, 0, 43, some 8, fun cs => (Value.agg (List.toArray cs)) = .agg (pc (fun _ => 0) (fun _ => 0)), fun cs => (Value.agg (List.toArray cs)) = .agg (pc (fb ((P).add (S)).x) (fb ((P).add (S)).y))⟩ (by simp) rfl (by simp) (by intro k hk; cases hk; exact hD 7 (by decide)) rfl rfl (fun cs h => by rw [pcL_of h]; exact noI_pc _ _) ?_
      intro n cs hb hR hold
      change v 7 = .pointer (some ⟨n, 0, none⟩) at hb
      rw [show readsOf plan_9_17 8 = [(135, 6), (24, 7)] from rfl]
      exact st_P hR (by rw [pcL_of hold]; exact pcL_len _ _) _ _ rfl hb h6 fun w' cs' hr he hk => ⟨trivial, hk, cs', hr, he⟩
    intro L v15 W15 hL hI
    obtain ⟨want, cs, hb_want, lo_want, hr, hn, ho⟩ := hI.inv.row_made ⟨some 7, 0, 43, some 8, fun cs => (Value.agg (List.toArray cs)) = .agg (pc (fun _ => 0) (fun _ => 0)), fun cs => (Value.agg (List.toArray cs)) = .agg (pc (fb ((P).add (S)).x) (fb ((P).add (S)).y))⟩ (by simp) 7 rfl (hL 7 (by decide))
    have R_want : RV W15 want 43 (fun u => u = .agg (pc (fb ((P).add (S)).x) (fb ((P).add (S)).y))) := ⟨cs, hr, hn 8 rfl (hL 8 (by decide))⟩
    clear hr hn ho
    replace R_raw := R_raw.keep hI.inv.keep (by simp)
    replace R_p := R_p.keep hI.inv.keep (by simp)
    replace R_t := R_t.keep hI.inv.keep (by simp)
    replace R_u_ := R_u_.keep hI.inv.keep (by simp)
    replace R_m := R_m.keep hI.inv.keep (by simp)
    replace hn_12 := hn_12.keep hI.inv.keep (by simp)
    have hx' : Ext w W15 := hx.trans hI.inv.keep.to_ext
    clear hx hI hL hok L
    have hx := hx'
    clear hx'
    simp only [putP, Act.put, List.setIfInBounds_toArray, List.set_cons_zero, List.set_cons_succ, hb_want]
    go_upto_region 18 with fail
    have hok : TrsOk [] W15.heap.size ([] : List Trk) := ⟨by simp, by simp, by simp, by simp⟩
    refine wp_region_plan (InvN [] (fun j u => match j with | 0 => u = .bool (true) | 1 => u = .bool (true) | 2 => u = .nilIface | 3 => u = .bool (true) | 4 => u = .bool (true) | 5 => u = .bool (true) | 6 => u = .nilIface | 7 => u = .bool (true) | 8 => u = .bool (true) | 9 => u = .bool (true) | 10 => u = .nilIface | 11 => u = .bool (true) | 12 => u = .bool (true) | 13 => u = .bool (true) | 14 => u = .agg (pc (fb ((P).add (S)).x) (fb ((P).add (S)).y)) | 15 => u = .agg (pc (fb ((P).add (S)).x) (fb ((P).add (S)).y)) | 16 => u = .bool (true) | 17 => u = .bool (true) | 18 => u = .bool (true) | 19 => u = .agg (pc (fb ((P).add (S)).x) (fb ((P).add (S)).y)) | 20 => u = .agg (pc (fb ((P).add (S)).x) (fb ((P).add (S)).y)) | 21 => u = .bool (true) | 22 => u = .bool (true) | 23 => u = .bool (true) | 24 => u = .agg (pc (fb ((S).neg).x) (fb ((S).neg).y)) | 25 => u = .agg (pc (rf) (rg)) | 26 => u = .agg (pc (fb ((S).neg).x) (fb ((S).neg).y)) | 27 => u = .bool (true) | 28 => u = .bool (true) | 29 => u = .bool (true) | _ => True) (fun _ => none) (fun _ => none) [] W15) plan_9_18 [(136, 0), (137, 1), (138, 2), (139, 3), (140, 4), (141, 5), (142, 6), (143, 7), (144, 8), (145, 9), (146, 10), (147, 11), (148, 12), (149, 13), (150, 14), (151, 15), (152, 16), (153, 17), (154, 18), (155, 19), (156, 20), (157, 21), (158, 22), (159, 23), (160, 24), (161, 25), (162, 26), (163, 27), (164, 28), (6, 29)] 165 (by kernel_rfl) rfl (by kernel_rfl) (InvN.of (Inv.start hok (by simp))) ⟨?_, ?_, ?_, ?_, ?_, ?_, ?_, ?_, ?_, ?_, ?_, ?_, ?_, ?_, ?_, ?_, ?_, ?_, ?_, ?_, ?_, ?_, ?_, ?_, ?_, ?_, ?_, ?_, ?_, ?_, trivial⟩ ?_
    · intro L v w hL hD hC hI
      refine ⟨fun _ => ?_, fun hw => by cases hw⟩
      refine hI.val0 hL (by simp) rfl rfl ?_
      rw [show readsOf plan_9_18 0 = [] from rfl]
      first | exact ⟨rfl, Ext.refl _⟩ | (go_simp; exact ⟨rfl, Ext.refl _⟩)
    · intro L v w hL hD hC hI
      refine ⟨fun _ => ?_, fun hw => by cases hw⟩
      have h0 : (v 0) = .bool (true) := hI.inv.val 0 (hD 0 (by decide))
      refine hI.val0 hL (by simp) rfl rfl ?_
      rw [show readsOf plan_9_18 1 = [(136, 0)] from rfl]
      exact ⟨h0, Ext.refl _⟩
    · intro L v w hL hD hC hI
      have hg : v 1 = .bool true := hI.inv.val 1 (hD 1 (by decide))
      refine ⟨fun _ => ?_, fun hw => by simp [wantedV, hg] at hw⟩
      have h1 : (v 1) = .bool (true) := hI.inv.val 1 (hD 1 (by decide))
      refine hI.val0 hL (by simp) rfl rfl ?_
      rw [show readsOf plan_9_18 2 = [(137, 1)] from rfl]
      first | exact ⟨rfl, Ext.refl _⟩ | (go_simp; exact ⟨rfl, Ext.refl _⟩)
    · intro L v w hL hD hC hI
      have hg : v 1 = .bool true := hI.inv.val 1 (hD 1 (by decide))
      refine ⟨fun _ => ?_, fun hw => by simp [wantedV, hg] at hw⟩
      have h1 : (v 1) = .bool (true) := hI.inv.val 1 (hD 1 (by decide))
      have h2 : (v 2) = .nilIface := hI.inv.val 2 (hD 2 (by decide))
      refine hI.val0 hL (by simp) rfl rfl ?_
      rw [show readsOf plan_9_18 3 = [(137, 1), (138, 2)] from rfl]
      exact give_nil_eq _ _ rfl h2 rfl ⟨rfl, Ext.refl _⟩
    · intro L v w hL hD hC hI
      refine ⟨fun _ => ?_, fun hw => by cases hw⟩
      have h1 : (v 1) = .bool (true) := hI.inv.val 1 (hD 1 (by decide))
      have h3 : (v 3) = .bool (true) := hI.inv.val 3 (hD 3 (by decide))
      refine hI.val0 hL (by simp) rfl rfl ?_
      rw [show readsOf plan_9_18 4 = [(137, 1), (139, 3)] from rfl]
      exact give_pick_t _ _ _ rfl h1 ⟨h3, Ext.refl _⟩
    · intro L v w hL hD hC hI
      refine ⟨fun _ => ?_, fun hw => by cases hw⟩
      have h4 : (v 4) = .bool (true) := hI.inv.val 4 (hD 4 (by decide))
      refine hI.val0 hL (by simp) rfl rfl ?_
      rw [show readsOf plan_9_18 5 = [(140, 4)] from rfl]
      exact ⟨h4, Ext.refl _⟩
    · intro L v w hL hD hC hI
      have hg : v 5 = .bool true := hI.inv.val 5 (hD 5 (by decide))
      refine ⟨fun _ => ?_, fun hw => by simp [wantedV, hg] at hw⟩
      have h5 : (v 5) = .bool (true) := hI.inv.val 5 (hD 5 (by decide))
      refine hI.val0 hL (by simp) rfl rfl ?_
      rw [show readsOf plan_9_18 6 = [(141, 5)] from rfl]
      first | exact ⟨rfl, Ext.refl _⟩ | (go_simp; exact ⟨rfl, Ext.refl _⟩)
    · intro L v w hL hD hC hI
      have hg : v 5 = .bool true := hI.inv.val 5 (hD 5 (by decide))
      refine ⟨fun _ => ?_, fun hw => by simp [wantedV, hg] at hw⟩
      have h5 : (v 5) = .bool (true) := hI.inv.val 5 (hD 5 (by decide))
      have h6 : (v 6) = .nilIface := hI.inv.val 6 (hD 6 (by decide))
      refine hI.val0 hL (by simp) rfl rfl ?_
      rw [show readsOf plan_9_18 7 = [(141, 5), (142, 6)] from rfl]
      exact give_nil_eq _ _ rfl h6 rfl ⟨rfl, Ext.refl _⟩
    · intro L v w hL hD hC hI
      refine ⟨fun _ => ?_, fun hw => by cases hw⟩
      have h5 : (v 5) = .bool (true) := hI.inv.val 5 (hD 5 (by decide))
      have h7 : (v 7) = .bool (true) := hI.inv.val 7 (hD 7 (by decide))
      refine hI.val0 hL (by simp) rfl rfl ?_
      rw [show readsOf plan_9_18 8 = [(141, 5), (143, 7)] from rfl]
      exact give_pick_t _ _ _ rfl h5 ⟨h7, Ext.refl _⟩
    · intro L v w hL hD hC hI
      refine ⟨fun _ => ?_, fun hw => by cases hw⟩
      have h8 : (v 8) = .bool (true) := hI.inv.val 8 (hD 8 (by decide))
      refine hI.val0 hL (by simp) rfl rfl ?_
      rw [show readsOf plan_9_18 9 = [(144, 8)] from rfl]
      exact ⟨h8, Ext.refl _⟩
    · intro L v w hL hD hC hI
      have hg : v 9 = .bool true := hI.inv.val 9 (hD 9 (by decide))
      refine ⟨fun _ => ?_, fun hw => by simp [wantedV, hg] at hw⟩
      have h9 : (v 9) = .bool (true) := hI.inv.val 9 (hD 9 (by decide))
      refine hI.val0 hL (by simp) rfl rfl ?_
      rw [show readsOf plan_9_18 10 = [(145, 9)] from rfl]
      first | exact ⟨rfl, Ext.refl _⟩ | (go_simp; exact ⟨rfl, Ext.refl _⟩)
    · intro L v w hL hD hC hI
      have hg : v 9 = .bool true := hI.inv.val 9 (hD 9 (by decide))
      refine ⟨fun _ => ?_, fun hw => by simp [wantedV, hg] at hw⟩
      have h9 : (v 9) = .bool (true) := hI.inv.val 9 (hD 9 (by decide))
      have h10 : (v 10) = .nilIface := hI.inv.val 10 (hD 10 (by decide))
      refine hI.val0 hL (by simp) rfl rfl ?_
      rw [show readsOf plan_9_18 11 = [(145, 9), (146, 10)] from rfl]
      exact give_nil_eq _ _ rfl h10 rfl ⟨rfl, Ext.refl _⟩
    · intro L v w hL hD hC hI
      refine ⟨fun _ => ?_, fun hw => by cases hw⟩
      have h9 : (v 9) = .bool (true) := hI.inv.val 9 (hD 9 (by decide))
      have h11 : (v 11) = .bool (true) := hI.inv.val 11 (hD 11 (by decide))
      refine hI.val0 hL (by simp) rfl rfl ?_
      rw [show readsOf plan_9_18 12 = [(145, 9), (147, 11)] from rfl]
      exact give_pick_t _ _ _ rfl h9 ⟨h11, Ext.refl _⟩
    · intro L v w hL hD hC hI
      refine ⟨fun _ => ?_, fun hw => by cases hw⟩
      have h12 : (v 12) = .bool (true) := hI.inv.val 12 (hD 12 (by decide))
      refine hI.val0 hL (by simp) rfl rfl ?_
      rw [show readsOf plan_9_18 13 = [(148, 12)] from rfl]
      exact ⟨h12, Ext.refl _⟩
    · intro L v w hL hD hC hI
      have hg : v 13 = .bool true := hI.inv.val 13 (hD 13 (by decide))
      refine ⟨fun _ => ?_, fun hw => by simp [wantedV, hg] at hw⟩
      have h13 : (v 13) = .bool (true) := hI.inv.val 13 (hD 13 (by decide))
      refine hI.val0 hL (by simp) rfl rfl ?_
      rw [show readsOf plan_9_18 14 = [(149, 13)] from rfl]
      exact ld_P (R_t.keep hI.inv.keep (by simp)) _ rfl rfl fun u hu => ⟨hu, Ext.refl _⟩
    · intro L v w hL hD hC hI
      have hg : v 13 = .bool true := hI.inv.val 13 (hD 13 (by decide))
      refine ⟨fun _ => ?_, fun hw => by simp [wantedV, hg] at hw⟩
      have h13 : (v 13) = .bool (true) := hI.inv.val 13 (hD 13 (by decide))
      refine hI.val0 hL (by simp) rfl rfl ?_
      rw [show readsOf plan_9_18 15 = [(149, 13)] from rfl]
      exact ld_P (R_want.keep hI.inv.keep (by simp)) _ rfl rfl fun u hu => ⟨hu, Ext.refl _⟩
    · intro L v w hL hD hC hI
      have hg : v 13 = .bool true := hI.inv.val 13 (hD 13 (by decide))
      refine ⟨fun _ => ?_, fun hw => by simp [wantedV, hg] at hw⟩
      have h13 : (v 13) = .bool (true) := hI.inv.val 13 (hD 13 (by decide))
      have h14 : (v 14) = .agg (pc (fb ((P).add (S)).x) (fb ((P).add (S)).y)) := hI.inv.val 14 (hD 14 (by decide))
      have h15 : (v 15) = .agg (pc (fb ((P).add (S)).x) (fb ((P).add (S)).y)) := hI.inv.val 15 (hD 15 (by decide))
      refine hI.val0 hL (by simp) rfl rfl ?_
      rw [show readsOf plan_9_18 16 = [(149, 13), (150, 14), (151, 15)] from rfl]
      exact give_eqP _ _ _ _ _ _ _ rfl h14 h15 ⟨by simp [beqb_self], Ext.refl _⟩
    · intro L v w hL hD hC hI
      refine ⟨fun _ => ?_, fun hw => by cases hw⟩
      have h13 : (v 13) = .bool (true) := hI.inv.val 13 (hD 13 (by decide))
      have h16 : (v 16) = .bool (true) := hI.inv.val 16 (hD 16 (by decide))
      refine hI.val0 hL (by simp) rfl rfl ?_
      rw [show readsOf plan_9_18 17 = [(149, 13), (152, 16)] from rfl]
      exact give_pick_t _ _ _ rfl h13 ⟨h16, Ext.refl _⟩
    · intro L v w hL hD hC hI
      refine ⟨fun _ => ?_, fun hw => by cases hw⟩
      have h17 : (v 17) = .bool (true) := hI.inv.val 17 (hD 17 (by decide))
      refine hI.val0 hL (by simp) rfl rfl ?_
      rw [show readsOf plan_9_18 18 = [(153, 17)] from rfl]
      exact ⟨h17, Ext.refl _⟩
    · intro L v w hL hD hC hI
      have hg : v 18 = .bool true := hI.inv.val 18 (hD 18 (by decide))
      refine ⟨fun _ => ?_, fun hw => by simp [wantedV, hg] at hw⟩
      have h18 : (v 18) = .bool (true) := hI.inv.val 18 (hD 18 (by decide))
      refine hI.val0 hL (by simp) rfl rfl ?_
      rw [show readsOf plan_9_18 19 = [(154, 18)] from rfl]
      exact ld_P (R_u_.keep hI.inv.keep (by simp)) _ rfl rfl fun u hu => ⟨hu, Ext.refl _⟩
    · intro L v w hL hD hC hI
      have hg : v 18 = .bool true := hI.inv.val 18 (hD 18 (by decide))
      refine ⟨fun _ => ?_, fun hw => by simp [wantedV, hg] at hw⟩
      have h18 : (v 18) = .bool (true) := hI.inv.val 18 (hD 18 (by decide))
      refine hI.val0 hL (by simp) rfl rfl ?_
      rw [show readsOf plan_9_18 20 = [(154, 18)] from rfl]
      exact ld_P (R_want.keep hI.inv.keep (by simp)) _ rfl rfl fun u hu => ⟨hu, Ext.refl _⟩
    · intro L v w hL hD hC hI
      have hg : v 18 = .bool true := hI.inv.val 18 (hD 18 (by decide))
      refine ⟨fun _ => ?_, fun hw => by simp [wantedV, hg] at hw⟩
      have h18 : (v 18) = .bool (true) := hI.inv.val 18 (hD 18 (by decide))
      have h19 : (v 19) = .agg (pc (fb ((P).add (S)).x) (fb ((P).add (S)).y)) := hI.inv.val 19 (hD 19 (by decide))
      have h20 : (v 20) = .agg (pc (fb ((P).add (S)).x) (fb ((P).add (S)).y)) := hI.inv.val 20 (hD 20 (by decide))
      refine hI.val0 hL (by simp) rfl rfl ?_
      rw [show readsOf plan_9_18 21 = [(154, 18), (155, 19), (156, 20)] from rfl]
      exact give_eqP _ _ _ _ _ _ _ rfl h19 h20 ⟨by simp [beqb_self], Ext.refl _⟩
    · intro L v w hL hD hC hI
      refine ⟨fun _ => ?_, fun hw => by cases hw⟩
      have h18 : (v 18) = .bool (true) := hI.inv.val 18 (hD 18 (by decide))
      have h21 : (v 21) = .bool (true) := hI.inv.val 21 (hD 21 (by decide))
      refine hI.val0 hL (by simp) rfl rfl ?_
      rw [show readsOf plan_9_18 22 = [(154, 18), (157, 21)] from rfl]
      exact give_pick_t _ _ _ rfl h18 ⟨h21, Ext.refl _⟩
    · intro L v w hL hD hC hI
      refine ⟨fun _ => ?_, fun hw => by cases hw⟩
      have h22 : (v 22) = .bool (true) := hI.inv.val 22 (hD 22 (by decide))
      refine hI.val0 hL (by simp) rfl rfl ?_
      rw [show readsOf plan_9_18 23 = [(158, 22)] from rfl]
      exact ⟨h22, Ext.refl _⟩
    · intro L v w hL hD hC hI
      have hg : v 23 = .bool true := hI.inv.val 23 (hD 23 (by decide))
      refine ⟨fun _ => ?_, fun hw => by simp [wantedV, hg] at hw⟩
      have h23 : (v 23) = .bool (true) := hI.inv.val 23 (hD 23 (by decide))
      refine hI.val0 hL (by simp) rfl rfl ?_
      rw [show readsOf plan_9_18 24 = [(159, 23)] from rfl]
      exact ld_P (R_m.keep hI.inv.keep (by simp)) _ rfl rfl fun u hu => ⟨hu, Ext.refl _⟩
    · intro L v w hL hD hC hI
      have hg : v 23 = .bool true := hI.inv.val 23 (hD 23 (by decide))
      refine ⟨fun _ => ?_, fun hw => by simp [wantedV, hg] at hw⟩
      have h23 : (v 23) = .bool (true) := hI.inv.val 23 (hD 23 (by decide))
      refine hI.val0 hL (by simp) rfl rfl ?_
      rw [show readsOf plan_9_18 25 = [(159, 23)] from rfl]
      exact ld_P (R_raw.keep hI.inv.keep (by simp)) _ rfl rfl fun u hu => ⟨hu, Ext.refl _⟩
    · intro L v w hL hD hC hI
      have hg : v 23 = .bool true := hI.inv.val 23 (hD 23 (by decide))
      refine ⟨fun _ => ?_, fun hw => by simp [wantedV, hg] at hw⟩
      have h23 : (v 23) = .bool (true) := hI.inv.val 23 (hD 23 (by decide))
      have h25 : (v 25) = .agg (pc (rf) (rg)) := hI.inv.val 25 (hD 25 (by decide))
      refine hI.val0 hL (by simp) rfl rfl ?_
      rw [show readsOf plan_9_18 26 = [(159, 23), (161, 25)] from rfl]
      refine give_call _ _ _ _ rfl rfl Try.func49 (by kernel_rfl) (by kernel_rfl) ?_
      refine Calls.mono (calls_eq (rneg_pt (P := S) hSx hSy w) (args' := #[v 25]) (by rw [h25])) ?_
      rintro e w' ⟨rfl, hx⟩
      exact ⟨_, rfl, rfl, hx⟩
    · intro L v w hL hD hC hI
      have hg : v 23 = .bool true := hI.inv.val 23 (hD 23 (by decide))
      refine ⟨fun _ => ?_, fun hw => by simp [wantedV, hg] at hw⟩
      have h23 : (v 23) = .bool (true) := hI.inv.val 23 (hD 23 (by decide))
      have h24 : (v 24) = .agg (pc (fb ((S).neg).x) (fb ((S).neg).y)) := hI.inv.val 24 (hD 24 (by decide))
      have h26 : (v 26) = .agg (pc (fb ((S).neg).x) (fb ((S).neg).y)) := hI.inv.val 26 (hD 26 (by decide))
      refine hI.val0 hL (by simp) rfl rfl ?_
      rw [show readsOf plan_9_18 27 = [(159, 23), (160, 24), (162, 26)] from rfl]
      exact give_eqP _ _ _ _ _ _ _ rfl h24 h26 ⟨by simp [beqb_self], Ext.refl _⟩
    · intro L v w hL hD hC hI
      refine ⟨fun _ => ?_, fun hw => by cases hw⟩
      have h23 : (v 23) = .bool (true) := hI.inv.val 23 (hD 23 (by decide))
      have h27 : (v 27) = .bool (true) := hI.inv.val 27 (hD 27 (by decide))
      refine hI.val0 hL (by simp) rfl rfl ?_
      rw [show readsOf plan_9_18 28 = [(159, 23), (163, 27)] from rfl]
      exact give_pick_t _ _ _ rfl h23 ⟨h27, Ext.refl _⟩
    · intro L v w hL hD hC hI
      refine ⟨fun _ => ?_, fun hw => by cases hw⟩
      have h28 : (v 28) = .bool (true) := hI.inv.val 28 (hD 28 (by decide))
      refine hI.val0 hL (by simp) rfl rfl ?_
      rw [show readsOf plan_9_18 29 = [(164, 28)] from rfl]
      exact ⟨h28, Ext.refl _⟩
    intro L v16 W16 hL hI
    replace R_raw := R_raw.keep hI.inv.keep (by simp)
    replace R_p := R_p.keep hI.inv.keep (by simp)
    replace R_t := R_t.keep hI.inv.keep (by simp)
    replace R_u_ := R_u_.keep hI.inv.keep (by simp)
    replace R_m := R_m.keep hI.inv.keep (by simp)
    replace R_want := R_want.keep hI.inv.keep (by simp)
    replace hn_12 := hn_12.keep hI.inv.keep (by simp)
    have hx' : Ext w W16 := hx.trans hI.inv.keep.to_ext
    have hs_136_18 : (v16 0) = .bool (true) := hI.inv.val 0 (hL 0 (by decide))
    have hs_137_18 : (v16 1) = .bool (true) := hI.inv.val 1 (hL 1 (by decide))
    have hs_138_18 : (v16 2) = .nilIface := hI.inv.val 2 (hL 2 (by decide))
    have hs_141_18 : (v16 5) = .bool (true) := hI.inv.val 5 (hL 5 (by decide))
    have hs_142_18 : (v16 6) = .nilIface := hI.inv.val 6 (hL 6 (by decide))
    have hs_145_18 : (v16 9) = .bool (true) := hI.inv.val 9 (hL 9 (by decide))
    have hs_146_18 : (v16 10) = .nilIface := hI.inv.val 10 (hL 10 (by decide))
    have hs_149_18 : (v16 13) = .bool (true) := hI.inv.val 13 (hL 13 (by decide))
    have hs_154_18 : (v16 18) = .bool (true) := hI.inv.val 18 (hL 18 (by decide))
    have hs_159_18 : (v16 23) = .bool (true) := hI.inv.val 23 (hL 23 (by decide))
    have hs_6_18 : (v16 29) = .bool (true) := hI.inv.val 29 (hL 29 (by decide))
    clear hx hI hL hok L
    have hx := hx'
    clear hx'
    simp only [putP, Act.put, List.setIfInBounds_toArray, List.set_cons_zero, List.set_cons_succ, hs_136_18, hs_137_18, hs_138_18, hs_141_18, hs_142_18, hs_145_18, hs_146_18, hs_149_18, hs_154_18, hs_159_18, hs_6_18]
    go_wp2
    go_ret
    exact ⟨rfl, hx⟩
  · skip
    have hok : TrsOk [] W9.heap.size ([] : List Trk) := ⟨by simp, by simp, by simp, by simp⟩
    refine wp_region_text (InvN [] (fun j u => match j with | 0 => u = .agg (pc (rf) (rg)) | 1 => u = .bool (false) | 2 => u = .bool (false) | _ => True) (fun _ => none) (fun _ => none) [] W9) plan_9_11 [(77, 0), (78, 1), (17, 2)] 165 rfl (by kernel_rfl) (InvN.of (Inv.start0 hok (by simp))) ⟨?_, ?_, ?_, trivial⟩ ?_
    · intro L v w hL hD hC hI
      refine ⟨fun _ => ?_, fun hw => by cases hw⟩
      refine hI.val0 hL (by simp) rfl rfl ?_
      rw [show readsOf plan_9_11 0 = [] from rfl]
      exact ld_P (R_raw.keep hI.inv.keep (by simp)) _ rfl rfl fun u hu => ⟨hu, Ext.refl _⟩
    · intro L v w hL hD hC hI
      refine ⟨fun _ => ?_, fun hw => by cases hw⟩
      have h0 : (v 0) = .agg (pc (rf) (rg)) := hI.inv.val 0 (hD 0 (by decide))
      refine hI.val0 hL (by simp) rfl rfl ?_
      rw [show readsOf plan_9_11 1 = [(77, 0)] from rfl]
      refine give_call _ _ _ _ rfl rfl Try.func31 (by kernel_rfl) (by kernel_rfl) ?_
      refine Calls.mono (calls_eq (ris_f hon w) (args' := #[v 0]) (by rw [h0])) ?_
      rintro e w' ⟨rfl, hx⟩
      exact ⟨_, rfl, rfl, hx⟩
    · intro L v w hL hD hC hI
      refine ⟨fun _ => ?_, fun hw => by cases hw⟩
      have h1 : (v 1) = .bool (false) := hI.inv.val 1 (hD 1 (by decide))
      refine hI.val0 hL (by simp) rfl rfl ?_
      rw [show readsOf plan_9_11 2 = [(78, 1)] from rfl]
      exact ⟨h1, Ext.refl _⟩
    intro L v10 W10 hL hI
    replace R_raw := R_raw.keep hI.inv.keep (by simp)
    replace R_p := R_p.keep hI.inv.keep (by simp)
    replace hn_12 := hn_12.keep hI.inv.keep (by simp)
    have hx' : Ext w W10 := hx.trans hI.inv.keep.to_ext
    have hs_17_11 : (v10 2) = .bool (false) := hI.inv.val 2 (hL 2 (by decide))
    clear hx hI hL hok L
    have hx := hx'
    clear hx'
    simp only [putP, Act.put, List.setIfInBounds_toArray, List.set_cons_zero, List.set_cons_succ, hs_17_11]
    go_upto_region 12 with fail
    have hok : TrsOk [] W10.heap.size ([⟨some 6, 0, 43, some 7, fun cs => (Value.agg (List.toArray cs)) = .agg (pc (fun _ => 0) (fun _ => 0)), fun cs => (Value.agg (List.toArray cs)) = .agg (pc (fun _ => 0) (fun _ => 0))⟩] : List Trk) := ⟨by simp, by simp, by simp, by simp⟩
    refine wp_region_text (InvN [] (fun j u => match j with | 0 => u = .agg (pc (fb (P).x) (fb (P).y)) | 1 => u = .agg (pc (rf) (rg)) | 2 => u = .tuple #[.agg (pc (fun _ => 0) (fun _ => 0)), errPoint] | 3 => u = .tuple #[.agg (pc (fun _ => 0) (fun _ => 0)), errPoint] | 4 => u = .agg (pc (fun _ => 0) (fun _ => 0)) | 5 => u = errPoint | 8 => u = errPoint | _ => True) (fun _ => none) (fun _ => none) [⟨some 6, 0, 43, some 7, fun cs => (Value.agg (List.toArray cs)) = .agg (pc (fun _ => 0) (fun _ => 0)), fun cs => (Value.agg (List.toArray cs)) = .agg (pc (fun _ => 0) (fun _ => 0))⟩] W10) plan_9_12 [(80, 0), (81, 1), (82, 2), (79, 3), (83, 4), (84, 5), (18, 6), (19, 8)] 165 rfl (by kernel_rfl) (InvN.of (Inv.start0 hok (by simp))) ⟨?_, ?_, ?_, ?_, ?_, ?_, ?_, ?_, ?_, trivial⟩ ?_
    · intro L v w hL hD hC hI
      refine ⟨fun _ => ?_, fun hw => by cases hw⟩
      refine hI.val0 hL (by simp) rfl rfl ?_
      rw [show readsOf plan_9_12 0 = [] from rfl]
      exact ld_P (R_p.keep hI.inv.keep (by simp)) _ rfl rfl fun u hu => ⟨hu, Ext.refl _⟩
    · intro L v w hL hD hC hI
      refine ⟨fun _ => ?_, fun hw => by cases hw⟩
      refine hI.val0 hL (by simp) rfl rfl ?_
      rw [show readsOf plan_9_12 1 = [] from rfl]
      exact ld_P (R_raw.keep hI.inv.keep (by simp)) _ rfl rfl fun u hu => ⟨hu, Ext.refl _⟩
    · intro L v w hL hD hC hI
      refine ⟨fun _ => ?_, fun hw => by cases hw⟩
      have h0 : (v 0) = .agg (pc (fb (P).x) (fb (P).y)) := hI.inv.val 0 (hD 0 (by decide))
      have h1 : (v 1) = .agg (pc (rf) (rg)) := hI.inv.val 1 (hD 1 (by decide))
      refine hI.val0 hL (by simp) rfl rfl ?_
      rw [show readsOf plan_9_12 2 = [(80, 0), (81, 1)] from rfl]
      refine give_call _ _ _ _ rfl rfl Try.func44 (by kernel_rfl) (by kernel_rfl) ?_
      refine Calls.mono (calls_eq (add_o2 P hon w) (args' := #[v 0, v 1]) (by rw [h0, h1])) ?_
      rintro e w' ⟨rfl, hx⟩
      exact ⟨_, rfl, rfl, hx⟩
    · intro L v w hL hD hC hI
      refine ⟨fun _ => ?_, fun hw => by cases hw⟩
      have h2 : (v 2) = .tuple #[.agg (pc (fun _ => 0) (fun _ => 0)), errPoint] := hI.inv.val 2 (hD 2 (by decide))
      refine hI.val0 hL (by simp) rfl rfl ?_
      rw [show readsOf plan_9_12 3 = [(82, 2)] from rfl]
      exact ⟨h2, Ext.refl _⟩
    · intro L v w hL hD hC hI
      refine ⟨fun _ => ?_, fun hw => by cases hw⟩
      have h3 : (v 3) = .tuple #[.agg (pc (fun _ => 0) (fun _ => 0)), errPoint] := hI.inv.val 3 (hD 3 (by decide))
      refine hI.val0 hL (by simp) rfl rfl ?_
      rw [show readsOf plan_9_12 4 = [(79, 3)] from rfl]
      exact give_ext _ _ _ rfl h3 _ rfl ⟨rfl, Ext.refl _⟩
    · intro L v w hL hD hC hI
      refine ⟨fun _ => ?_, fun hw => by cases hw⟩
      have h3 : (v 3) = .tuple #[.agg (pc (fun _ => 0) (fun _ => 0)), errPoint] := hI.inv.val 3 (hD 3 (by decide))
      refine hI.val0 hL (by simp) rfl rfl ?_
      rw [show readsOf plan_9_12 5 = [(79, 3)] from rfl]
      exact give_ext _ _ _ rfl h3 _ rfl ⟨rfl, Ext.refl _⟩
    · intro L v w hL hD hC hI
      refine ⟨fun _ => ?_, fun hw => by cases hw⟩
      refine InvN.alloc_step hok hI hL ⟨some 6, 0, 43, some 7, fun cs => (Value.agg (List.toArray cs)) = .agg (pc (fun _ => 0) (fun _ => 0)), fun cs => (Value.agg (List.toArray cs)) = .agg (pc (fun _ => 0) (fun _ => 0))⟩ (by simp) rfl (by simp) (by intro s hs; cases hs; exact not_yet hC hL (by decide)) rfl rfl ?_
      rw [show readsOf plan_9_12 6 = [] from rfl]
      go_simp
      first | exact ⟨rfl, pcL (fun _ => 0) (fun _ => 0), rfl, rfl⟩ | exact ⟨trivial, rfl, pcL (fun _ => 0) (fun _ => 0), rfl, rfl⟩ | exact ⟨rfl, (bcells fun _ => 0).toList, by rw [Array.toArray_toList], by rw [Array.toArray_toList]⟩
    · intro L v w hL hD hC hI
      refine ⟨fun _ => ?_, fun hw => by cases hw⟩
      have h4 : (v 4) = .agg (pc (fun _ => 0) (fun _ => 0)) := hI.inv.val 4 (hD 4 (by decide))
      refine InvN.store_step hok hI hL ⟨some 6, 0, 43, some 7, fun cs => (Value.agg (List.toArray cs)) = .agg (pc (fun _ => 0) (fun _ => 0)), fun cs => (Value.agg (List.toArray cs)) = .agg (pc (fun _ => 0) (fun _ => 0))⟩ (by simp) rfl (by simp) (by intro k hk; cases hk; exact hD 6 (by decide)) rfl rfl (fun cs h => by rw [pcL_of h]; exact noI_pc _ _) ?_
      intro n cs hb hR hold
      change v 6 = .pointer (some ⟨n, 0, none⟩) at hb
      rw [show readsOf plan_9_12 7 = [(83, 4), (18, 6)] from rfl]
      exact st_P hR (by rw [pcL_of hold]; exact pcL_len _ _) _ _ rfl hb h4 fun w' cs' hr he hk => ⟨trivial, hk, cs', hr, he⟩
    · intro L v w hL hD hC hI
      refine ⟨fun _ => ?_, fun hw => by cases hw⟩
      have h5 : (v 5) = errPoint := hI.inv.val 5 (hD 5 (by decide))
      refine hI.val0 hL (by simp) rfl rfl ?_
      rw [show readsOf plan_9_12 8 = [(84, 5)] from rfl]
      exact ⟨h5, Ext.refl _⟩
    intro L v11 W11 hL hI
    obtain ⟨t, cs, hb_t, lo_t, hr, hn, ho⟩ := hI.inv.row_made ⟨some 6, 0, 43, some 7, fun cs => (Value.agg (List.toArray cs)) = .agg (pc (fun _ => 0) (fun _ => 0)), fun cs => (Value.agg (List.toArray cs)) = .agg (pc (fun _ => 0) (fun _ => 0))⟩ (by simp) 6 rfl (hL 6 (by decide))
    have R_t : RV W11 t 43 (fun u => u = .agg (pc (fun _ => 0) (fun _ => 0))) := ⟨cs, hr, hn 7 rfl (hL 7 (by decide))⟩
    clear hr hn ho
    replace R_raw := R_raw.keep hI.inv.keep (by simp)
    replace R_p := R_p.keep hI.inv.keep (by simp)
    replace hn_12 := hn_12.keep hI.inv.keep (by simp)
    have hx' : Ext w W11 := hx.trans hI.inv.keep.to_ext
    have hs_19_12 : (v11 8) = errPoint := hI.inv.val 8 (hL 8 (by decide))
    clear hx hI hL hok L
    have hx := hx'
    clear hx'
    simp only [putP, Act.put, List.setIfInBounds_toArray, List.set_cons_zero, List.set_cons_succ, hb_t, hs_19_12]
    go_upto_region 13 with fail
    have hok : TrsOk [] W11.heap.size ([⟨some 6, 0, 43, some 7, fun cs => (Value.agg (List.toArray cs)) = .agg (pc (fun _ => 0) (fun _ => 0)), fun cs => (Value.agg (List.toArray cs)) = .agg (pc (fun _ => 0) (fun _ => 0))⟩] : List Trk) := ⟨by simp, by simp, by simp, by simp⟩
    refine wp_region_text (InvN [] (fun j u => match j with | 0 => u = .agg (pc (rf) (rg)) | 1 => u = .agg (pc (fb (P).x) (fb (P).y)) | 2 => u = .tuple #[.agg (pc (fun _ => 0) (fun _ => 0)), errPoint] | 3 => u = .tuple #[.agg (pc (fun _ => 0) (fun _ => 0)), errPoint] | 4 => u = .agg (pc (fun _ => 0) (fun _ => 0)) | 5 => u = errPoint | 8 => u = errPoint | _ => True) (fun _ => none) (fun _ => none) [⟨some 6, 0, 43, some 7, fun cs => (Value.agg (List.toArray cs)) = .agg (pc (fun _ => 0) (fun _ => 0)), fun cs => (Value.agg (List.toArray cs)) = .agg (pc (fun _ => 0) (fun _ => 0))⟩] W11) plan_9_13 [(86, 0), (87, 1), (88, 2), (85, 3), (89, 4), (90, 5), (20, 6), (21, 8)] 165 rfl (by kernel_rfl) (InvN.of (Inv.start0 hok (by simp))) ⟨?_, ?_, ?_, ?_, ?_, ?_, ?_, ?_, ?_, trivial⟩ ?_
    · intro L v w hL hD hC hI
      refine ⟨fun _ => ?_, fun hw => by cases hw⟩
      refine hI.val0 hL (by simp) rfl rfl ?_
      rw [show readsOf plan_9_13 0 = [] from rfl]
      exact ld_P (R_raw.keep hI.inv.keep (by simp)) _ rfl rfl fun u hu => ⟨hu, Ext.refl _⟩
    · intro L v w hL hD hC hI
      refine ⟨fun _ => ?_, fun hw => by cases hw⟩
      refine hI.val0 hL (by simp) rfl rfl ?_
      rw [show readsOf plan_9_13 1 = [] from rfl]
      exact ld_P (R_p.keep hI.inv.keep (by simp)) _ rfl rfl fun u hu => ⟨hu, Ext.refl _⟩
    · intro L v w hL hD hC hI
      refine ⟨fun _ => ?_, fun hw => by cases hw⟩
      have h0 : (v 0) = .agg (pc (rf) (rg)) := hI.inv.val 0 (hD 0 (by decide))
      have h1 : (v 1) = .agg (pc (fb (P).x) (fb (P).y)) := hI.inv.val 1 (hD 1 (by decide))
      refine hI.val0 hL (by simp) rfl rfl ?_
      rw [show readsOf plan_9_13 2 = [(86, 0), (87, 1)] from rfl]
      refine give_call _ _ _ _ rfl rfl Try.func44 (by kernel_rfl) (by kernel_rfl) ?_
      refine Calls.mono (calls_eq (add_off1 hon w) (args' := #[v 0, v 1]) (by rw [h0, h1])) ?_
      rintro e w' ⟨rfl, hx⟩
      exact ⟨_, rfl, rfl, hx⟩
    · intro L v w hL hD hC hI
      refine ⟨fun _ => ?_, fun hw => by cases hw⟩
      have h2 : (v 2) = .tuple #[.agg (pc (fun _ => 0) (fun _ => 0)), errPoint] := hI.inv.val 2 (hD 2 (by decide))
      refine hI.val0 hL (by simp) rfl rfl ?_
      rw [show readsOf plan_9_13 3 = [(88, 2)] from rfl]
      exact ⟨h2, Ext.refl _⟩
    · intro L v w hL hD hC hI
      refine ⟨fun _ => ?_, fun hw => by cases hw⟩
      have h3 : (v 3) = .tuple #[.agg (pc (fun _ => 0) (fun _ => 0)), errPoint] := hI.inv.val 3 (hD 3 (by decide))
      refine hI.val0 hL (by simp) rfl rfl ?_
      rw [show readsOf plan_9_13 4 = [(85, 3)] from rfl]
      exact give_ext _ _ _ rfl h3 _ rfl ⟨rfl, Ext.refl _⟩
    · intro L v w hL hD hC hI
      refine ⟨fun _ => ?_, fun hw => by cases hw⟩
      have h3 : (v 3) = .tuple #[.agg (pc (fun _ => 0) (fun _ => 0)), errPoint] := hI.inv.val 3 (hD 3 (by decide))
      refine hI.val0 hL (by simp) rfl rfl ?_
      rw [show readsOf plan_9_13 5 = [(85, 3)] from rfl]
      exact give_ext _ _ _ rfl h3 _ rfl ⟨rfl, Ext.refl _⟩
    · intro L v w hL hD hC hI
      refine ⟨fun _ => ?_, fun hw => by cases hw⟩
      refine InvN.alloc_step hok hI hL ⟨some 6, 0, 43, some 7, fun cs => (Value.agg (List.toArray cs)) = .agg (pc (fun _ => 0) (fun _ => 0)), fun cs => (Value.agg (List.toArray cs)) = .agg (pc (fun _ => 0) (fun _ => 0))⟩ (by simp) rfl (by simp) (by intro s hs; cases hs; exact not_yet hC hL (by decide)) rfl rfl ?_
      rw [show readsOf plan_9_13 6 = [] from rfl]
      go_simp
      first | exact ⟨rfl, pcL (fun _ => 0) (fun _ => 0), rfl, rfl⟩ | exact ⟨trivial, rfl, pcL (fun _ => 0) (fun _ => 0), rfl, rfl⟩ | exact ⟨rfl, (bcells fun _ => 0).toList, by rw [Array.toArray_toList], by rw [Array.toArray_toList]⟩
    · intro L v w hL hD hC hI
      refine ⟨fun _ => ?_, fun hw => by cases hw⟩
      have h4 : (v 4) = .agg (pc (fun _ => 0) (fun _ => 0)) := hI.inv.val 4 (hD 4 (by decide))
      refine InvN.store_step hok hI hL ⟨some 6, 0, 43, some 7, fun cs => (Value.agg (List.toArray cs)) = .agg (pc (fun _ => 0) (fun _ => 0)), fun cs => (Value.agg (List.toArray cs)) = .agg (pc (fun _ => 0) (fun _ => 0))⟩ (by simp) rfl (by simp) (by intro k hk; cases hk; exact hD 6 (by decide)) rfl rfl (fun cs h => by rw [pcL_of h]; exact noI_pc _ _) ?_
      intro n cs hb hR hold
      change v 6 = .pointer (some ⟨n, 0, none⟩) at hb
      rw [show readsOf plan_9_13 7 = [(89, 4), (20, 6)] from rfl]
      exact st_P hR (by rw [pcL_of hold]; exact pcL_len _ _) _ _ rfl hb h4 fun w' cs' hr he hk => ⟨trivial, hk, cs', hr, he⟩
    · intro L v w hL hD hC hI
      refine ⟨fun _ => ?_, fun hw => by cases hw⟩
      have h5 : (v 5) = errPoint := hI.inv.val 5 (hD 5 (by decide))
      refine hI.val0 hL (by simp) rfl rfl ?_
      rw [show readsOf plan_9_13 8 = [(90, 5)] from rfl]
      exact ⟨h5, Ext.refl _⟩
    intro L v12 W12 hL hI
    obtain ⟨u_, cs, hb_u_, lo_u_, hr, hn, ho⟩ := hI.inv.row_made ⟨some 6, 0, 43, some 7, fun cs => (Value.agg (List.toArray cs)) = .agg (pc (fun _ => 0) (fun _ => 0)), fun cs => (Value.agg (List.toArray cs)) = .agg (pc (fun _ => 0) (fun _ => 0))⟩ (by simp) 6 rfl (hL 6 (by decide))
    have R_u_ : RV W12 u_ 43 (fun u => u = .agg (pc (fun _ => 0) (fun _ => 0))) := ⟨cs, hr, hn 7 rfl (hL 7 (by decide))⟩
    clear hr hn ho
    replace R_raw := R_raw.keep hI.inv.keep (by simp)
    replace R_p := R_p.keep hI.inv.keep (by simp)
    replace R_t := R_t.keep hI.inv.keep (by simp)
    replace hn_12 := hn_12.keep hI.inv.keep (by simp)
    have hx' : Ext w W12 := hx.trans hI.inv.keep.to_ext
    have hs_21_13 : (v12 8) = errPoint := hI.inv.val 8 (hL 8 (by decide))
    clear hx hI hL hok L
    have hx := hx'
    clear hx'
    simp only [putP, Act.put, List.setIfInBounds_toArray, List.set_cons_zero, List.set_cons_succ, hb_u_, hs_21_13]
    go_upto_region 14 with fail
    have hok : TrsOk [] W12.heap.size ([⟨some 5, 0, 43, some 6, fun cs => (Value.agg (List.toArray cs)) = .agg (pc (fun _ => 0) (fun _ => 0)), fun cs => (Value.agg (List.toArray cs)) = .agg (pc (fun _ => 0) (fun _ => 0))⟩] : List Trk) := ⟨by simp, by simp, by simp, by simp⟩
    refine wp_region_text (InvN [] (fun j u => match j with | 0 => u = .agg (pc (rf) (rg)) | 1 => u = .tuple #[.agg (pc (fun _ => 0) (fun _ => 0)), errPoint] | 2 => u = .tuple #[.agg (pc (fun _ => 0) (fun _ => 0)), errPoint] | 3 => u = .agg (pc (fun _ => 0) (fun _ => 0)) | 4 => u = errPoint | 7 => u = errPoint | _ => True) (fun _ => none) (fun _ => none) [⟨some 5, 0, 43, some 6, fun cs => (Value.agg (List.toArray cs)) = .agg (pc (fun _ => 0) (fun _ => 0)), fun cs => (Value.agg (List.toArray cs)) = .agg (pc (fun _ => 0) (fun _ => 0))⟩] W12) plan_9_14 [(92, 0), (93, 1), (91, 2), (94, 3), (95, 4), (22, 5), (23, 7)] 165 rfl (by kernel_rfl) (InvN.of (Inv.start0 hok (by simp))) ⟨?_, ?_, ?_, ?_, ?_, ?_, ?_, ?_, trivial⟩ ?_
    · intro L v w hL hD hC hI
      refine ⟨fun _ => ?_, fun hw => by cases hw⟩
      refine hI.val0 hL (by simp) rfl rfl ?_
      rw [show readsOf plan_9_14 0 = [] from rfl]
      exact ld_P (R_raw.keep hI.inv.keep (by simp)) _ rfl rfl fun u hu => ⟨hu, Ext.refl _⟩
    · intro L v w hL hD hC hI
      refine ⟨fun _ => ?_, fun hw => by cases hw⟩
      have h0 : (v 0) = .agg (pc (rf) (rg)) := hI.inv.val 0 (hD 0 (by decide))
      refine hI.val0 hL (by simp) rfl rfl ?_
      rw [show readsOf plan_9_14 1 = [(92, 0)] from rfl]
      refine give_call _ _ _ _ rfl rfl Try.func45 (by kernel_rfl) (by kernel_rfl) ?_
      refine Calls.mono (calls_eq (neg_off hon w) (args' := #[v 0]) (by rw [h0])) ?_
      rintro e w' ⟨rfl, hx⟩
      exact ⟨_, rfl, rfl, hx⟩
    · intro L v w hL hD hC hI
      refine ⟨fun _ => ?_, fun hw => by cases hw⟩
      have h1 : (v 1) = .tuple #[.agg (pc (fun _ => 0) (fun _ => 0)), errPoint] := hI.inv.val 1 (hD 1 (by decide))
      refine hI.val0 hL (by simp) rfl rfl ?_
      rw [show readsOf plan_9_14 2 = [(93, 1)] from rfl]
      exact ⟨h1, Ext.refl _⟩
    · intro L v w hL hD hC hI
      refine ⟨fun _ => ?_, fun hw => by cases hw⟩
      have h2 : (v 2) = .tuple #[.agg (pc (fun _ => 0) (fun _ => 0)), errPoint] := hI.inv.val 2 (hD 2 (by decide))
      refine hI.val0 hL (by simp) rfl rfl ?_
      rw [show readsOf plan_9_14 3 = [(91, 2)] from rfl]
      exact give_ext _ _ _ rfl h2 _ rfl ⟨rfl, Ext.refl _⟩
    · intro L v w hL hD hC hI
      refine ⟨fun _ => ?_, fun hw => by cases hw⟩
      have h2 : (v 2) = .tuple #[.agg (pc (fun _ => 0) (fun _ => 0)), errPoint] := hI.inv.val 2 (hD 2 (by decide))
      refine hI.val0 hL (by simp) rfl rfl ?_
      rw [show readsOf plan_9_14 4 = [(91, 2)] from rfl]
      exact give_ext _ _ _ rfl h2 _ rfl ⟨rfl, Ext.refl _⟩
    · intro L v w hL hD hC hI
      refine ⟨fun _ => ?_, fun hw => by cases hw⟩
      refine InvN.alloc_step hok hI hL ⟨some 5, 0, 43, some 6, fun cs => (Value.agg (List.toArray cs)) = .agg (pc (fun _ => 0) (fun _ => 0)), fun cs => (Value.agg (List.toArray cs)) = .agg (pc (fun _ => 0) (fun _ => 0))⟩ (by simp) rfl (by simp) (by intro s hs; cases hs; exact not_yet hC hL (by decide)) rfl rfl ?_
      rw [show readsOf plan_9_14 5 = [] from rfl]
      go_simp
      first | exact ⟨rfl, pcL (fun _ => 0) (fun _ => 0), rfl, rfl⟩ | exact ⟨trivial, rfl, pcL (fun _ => 0) (fun _ => 0), rfl, rfl⟩ | exact ⟨rfl, (bcells fun _ => 0).toList, by rw [Array.toArray_toList], by rw [Array.toArray_toList]⟩
    · intro L v w hL hD hC hI
      refine ⟨fun _ => ?_, fun hw => by cases hw⟩
      have h3 : (v 3) = .agg (pc (fun _ => 0) (fun _ => 0)) := hI.inv.val 3 (hD 3 (by decide))
      refine InvN.store_step hok hI hL ⟨some 5, 0, 43, some 6, fun cs => (Value.agg (List.toArray cs)) = .agg (pc (fun _ => 0) (fun _ => 0)), fun cs => (Value.agg (List.toArray cs)) = .agg (pc (fun _ => 0) (fun _ => 0))⟩ (by simp) rfl (by simp) (by intro k hk; cases hk; exact hD 5 (by decide)) rfl rfl (fun cs h => by rw [pcL_of h]; exact noI_pc _ _) ?_
      intro n cs hb hR hold
      change v 5 = .pointer (some ⟨n, 0, none⟩) at hb
      rw [show readsOf plan_9_14 6 = [(94, 3), (22, 5)] from rfl]
      exact st_P hR (by rw [pcL_of hold]; exact pcL_len _ _) _ _ rfl hb h3 fun w' cs' hr he hk => ⟨trivial, hk, cs', hr, he⟩
    · intro L v w hL hD hC hI
      refine ⟨fun _ => ?_, fun hw => by cases hw⟩
      have h4 : (v 4) = errPoint := hI.inv.val 4 (hD 4 (by decide))
      refine hI.val0 hL (by simp) rfl rfl ?_
      rw [show readsOf plan_9_14 7 = [(95, 4)] from rfl]
      exact ⟨h4, Ext.refl _⟩
    intro L v13 W13 hL hI
    obtain ⟨m, cs, hb_m, lo_m, hr, hn, ho⟩ := hI.inv.row_made ⟨some 5, 0, 43, some 6, fun cs => (Value.agg (List.toArray cs)) = .agg (pc (fun _ => 0) (fun _ => 0)), fun cs => (Value.agg (List.toArray cs)) = .agg (pc (fun _ => 0) (fun _ => 0))⟩ (by simp) 5 rfl (hL 5 (by decide))
    have R_m : RV W13 m 43 (fun u => u = .agg (pc (fun _ => 0) (fun _ => 0))) := ⟨cs, hr, hn 6 rfl (hL 6 (by decide))⟩
    clear hr hn ho
    replace R_raw := R_raw.keep hI.inv.keep (by simp)
    replace R_p := R_p.keep hI.inv.keep (by simp)
    replace R_t := R_t.keep hI.inv.keep (by simp)
    replace R_u_ := R_u_.keep hI.inv.keep (by simp)
    replace hn_12 := hn_12.keep hI.inv.keep (by simp)
    have hx' : Ext w W13 := hx.trans hI.inv.keep.to_ext
    have hs_23_14 : (v13 7) = errPoint := hI.inv.val 7 (hL 7 (by decide))
    clear hx hI hL hok L
    have hx := hx'
    clear hx'
    simp only [putP, Act.put, List.setIfInBounds_toArray, List.set_cons_zero, List.set_cons_succ, hb_m, hs_23_14]
    go_upto_region 15 with fail
    have hok : TrsOk [] W13.heap.size ([] : List Trk) := ⟨by simp, by simp, by simp, by simp⟩
    refine wp_region_text (InvN [] (fun j u => match j with | 0 => u = .bool (false) | 1 => u = .bool (true) | _ => True) (fun _ => none) (fun _ => none) [] W13) plan_9_15 [(96, 0), (97, 1)] 165 rfl (by kernel_rfl) (InvN.of (Inv.start0 hok (by simp))) ⟨?_, ?_, trivial⟩ ?_
    · intro L v w hL hD hC hI
      refine ⟨fun _ => ?_, fun hw => by cases hw⟩
      refine hI.val0 hL (by simp) rfl rfl ?_
      rw [show readsOf plan_9_15 0 = [] from rfl]
      first | exact ⟨rfl, Ext.refl _⟩ | (go_simp; exact ⟨rfl, Ext.refl _⟩)
    · intro L v w hL hD hC hI
      refine ⟨fun _ => ?_, fun hw => by cases hw⟩
      have h0 : (v 0) = .bool (false) := hI.inv.val 0 (hD 0 (by decide))
      refine hI.val0 hL (by simp) rfl rfl ?_
      rw [show readsOf plan_9_15 1 = [(96, 0)] from rfl]
      exact give_not _ _ rfl h0 ⟨rfl, Ext.refl _⟩
    intro L v14 W14 hL hI
    replace R_raw := R_raw.keep hI.inv.keep (by simp)
    replace R_p := R_p.keep hI.inv.keep (by simp)
    replace R_t := R_t.keep hI.inv.keep (by simp)
    replace R_u_ := R_u_.keep hI.inv.keep (by simp)
    replace R_m := R_m.keep hI.inv.keep (by simp)
    replace hn_12 := hn_12.keep hI.inv.keep (by simp)
    have hx' : Ext w W14 := hx.trans hI.inv.keep.to_ext
    have hs_96_15 : (v14 0) = .bool (false) := hI.inv.val 0 (hL 0 (by decide))
    have hs_97_15 : (v14 1) = .bool (true) := hI.inv.val 1 (hL 1 (by decide))
    clear hx hI hL hok L
    have hx := hx'
    clear hx'
    simp only [putP, Act.put, List.setIfInBounds_toArray, List.set_cons_zero, List.set_cons_succ, hs_96_15, hs_97_15]
    go_upto_region 16 with fail
    have hok : TrsOk [] W14.heap.size ([] : List Trk) := ⟨by simp, by simp, by simp, by simp⟩
    refine wp_region_text (InvN [] (fun j u => match j with | 0 => u = .bool (true) | 1 => u = .bool (true) | 2 => u = .agg (pc (fun _ => 0) (fun _ => 0)) | 3 => u = .agg (pc (fun _ => 0) (fun _ => 0)) | 4 => u = .bool (true) | 5 => u = .bool (true) | 6 => u = .bool (true) | 7 => u = .agg (pc (fun _ => 0) (fun _ => 0)) | 8 => u = .agg (pc (fun _ => 0) (fun _ => 0)) | 9 => u = .bool (true) | 10 => u = .bool (true) | 11 => u = .bool (true) | 12 => u = .agg (pc (fun _ => 0) (fun _ => 0)) | 13 => u = .agg (pc (fun _ => 0) (fun _ => 0)) | 14 => u = .bool (true) | 15 => u = .bool (true) | 16 => u = .bool (true) | 17 => u = errPoint | 18 => u = .iface 30 (.int .i64 29) | 19 => u = .bool (true) | 20 => u = .bool (true) | 21 => u = .bool (true) | 22 => u = errPoint | 23 => u = .iface 30 (.int .i64 29) | 24 => u = .bool (true) | 25 => u = .bool (true) | 26 => u = .bool (true) | 27 => u = errPoint | 28 => u = .iface 30 (.int .i64 29) | 29 => u = .bool (true) | 30 => u = .bool (true) | 31 => u = .bool (true) | _ => True) (fun _ => none) (fun _ => none) [] W14) plan_9_16 [(98, 0), (99, 1), (100, 2), (101, 3), (102, 4), (103, 5), (104, 6), (105, 7), (106, 8), (107, 9), (108, 10), (109, 11), (110, 12), (111, 13), (112, 14), (113, 15), (114, 16), (115, 17), (116, 18), (117, 19), (118, 20), (119, 21), (120, 22), (121, 23), (122, 24), (123, 25), (124, 26), (125, 27), (126, 28), (127, 29), (128, 30), (6, 31)] 165 rfl (by kernel_rfl) (InvN.of (Inv.start0 hok (by simp))) ⟨?_, ?_, ?_, ?_, ?_, ?_, ?_, ?_, ?_, ?_, ?_, ?_, ?_, ?_, ?_, ?_, ?_, ?_, ?_, ?_, ?_, ?_, ?_, ?_, ?_, ?_, ?_, ?_, ?_, ?_, ?_, ?_, trivial⟩ ?_
    · intro L v w hL hD hC hI
      refine ⟨fun _ => ?_, fun hw => by cases hw⟩
      refine hI.val0 hL (by simp) rfl rfl ?_
      rw [show readsOf plan_9_16 0 = [] from rfl]
      first | exact ⟨rfl, Ext.refl _⟩ | (go_simp; exact ⟨rfl, Ext.refl _⟩)
    · intro L v w hL hD hC hI
      refine ⟨fun _ => ?_, fun hw => by cases hw⟩
      have h0 : (v 0) = .bool (true) := hI.inv.val 0 (hD 0 (by decide))
      refine hI.val0 hL (by simp) rfl rfl ?_
      rw [show readsOf plan_9_16 1 = [(98, 0)] from rfl]
      exact ⟨h0, Ext.refl _⟩
    · intro L v w hL hD hC hI
      have hg : v 1 = .bool true := hI.inv.val 1 (hD 1 (by decide))
      refine ⟨fun _ => ?_, fun hw => by simp [wantedV, hg] at hw⟩
      have h1 : (v 1) = .bool (true) := hI.inv.val 1 (hD 1 (by decide))
      refine hI.val0 hL (by simp) rfl rfl ?_
      rw [show readsOf plan_9_16 2 = [(99, 1)] from rfl]
      exact ld_P (R_t.keep hI.inv.keep (by simp)) _ rfl rfl fun u hu => ⟨hu, Ext.refl _⟩
    · intro L v w hL hD hC hI
      have hg : v 1 = .bool true := hI.inv.val 1 (hD 1 (by decide))
      refine ⟨fun _ => ?_, fun hw => by simp [wantedV, hg] at hw⟩
      have h1 : (v 1) = .bool (true) := hI.inv.val 1 (hD 1 (by decide))
      refine hI.val0 hL (by simp) rfl rfl ?_
      rw [show readsOf plan_9_16 3 = [(99, 1)] from rfl]
      exact give_zeroP rfl ⟨rfl, Ext.refl _⟩
    · intro L v w hL hD hC hI
      have hg : v 1 = .bool true := hI.inv.val 1 (hD 1 (by decide))
      refine ⟨fun _ => ?_, fun hw => by simp [wantedV, hg] at hw⟩
      have h1 : (v 1) = .bool (true) := hI.inv.val 1 (hD 1 (by decide))
      have h2 : (v 2) = .agg (pc (fun _ => 0) (fun _ => 0)) := hI.inv.val 2 (hD 2 (by decide))
      have h3 : (v 3) = .agg (pc (fun _ => 0) (fun _ => 0)) := hI.inv.val 3 (hD 3 (by decide))
      refine hI.val0 hL (by simp) rfl rfl ?_
      rw [show readsOf plan_9_16 4 = [(99, 1), (100, 2), (101, 3)] from rfl]
      exact give_eqP _ _ _ _ _ _ _ rfl h2 h3 ⟨by simp [beqb_self], Ext.refl _⟩
    · intro L v w hL hD hC hI
      refine ⟨fun _ => ?_, fun hw => by cases hw⟩
      have h1 : (v 1) = .bool (true) := hI.inv.val 1 (hD 1 (by decide))
      have h4 : (v 4) = .bool (true) := hI.inv.val 4 (hD 4 (by decide))
      refine hI.val0 hL (by simp) rfl rfl ?_
      rw [show readsOf plan_9_16 5 = [(99, 1), (102, 4)] from rfl]
      exact give_pick_t _ _ _ rfl h1 ⟨h4, Ext.refl _⟩
    · intro L v w hL hD hC hI
      refine ⟨fun _ => ?_, fun hw => by cases hw⟩
      have h5 : (v 5) = .bool (true) := hI.inv.val 5 (hD 5 (by decide))
      refine hI.val0 hL (by simp) rfl rfl ?_
      rw [show readsOf plan_9_16 6 = [(103, 5)] from rfl]
      exact ⟨h5, Ext.refl _⟩
    · intro L v w hL hD hC hI
      have hg : v 6 = .bool true := hI.inv.val 6 (hD 6 (by decide))
      refine ⟨fun _ => ?_, fun hw => by simp [wantedV, hg] at hw⟩
      have h6 : (v 6) = .bool (true) := hI.inv.val 6 (hD 6 (by decide))
      refine hI.val0 hL (by simp) rfl rfl ?_
      rw [show readsOf plan_9_16 7 = [(104, 6)] from rfl]
      exact ld_P (R_u_.keep hI.inv.keep (by simp)) _ rfl rfl fun u hu => ⟨hu, Ext.refl _⟩
    · intro L v w hL hD hC hI
      have hg : v 6 = .bool true := hI.inv.val 6 (hD 6 (by decide))
      refine ⟨fun _ => ?_, fun hw => by simp [wantedV, hg] at hw⟩
      have h6 : (v 6) = .bool (true) := hI.inv.val 6 (hD 6 (by decide))
      refine hI.val0 hL (by simp) rfl rfl ?_
      rw [show readsOf plan_9_16 8 = [(104, 6)] from rfl]
      exact give_zeroP rfl ⟨rfl, Ext.refl _⟩
    · intro L v w hL hD hC hI
      have hg : v 6 = .bool true := hI.inv.val 6 (hD 6 (by decide))
      refine ⟨fun _ => ?_, fun hw => by simp [wantedV, hg] at hw⟩
      have h6 : (v 6) = .bool (true) := hI.inv.val 6 (hD 6 (by decide))
      have h7 : (v 7) = .agg (pc (fun _ => 0) (fun _ => 0)) := hI.inv.val 7 (hD 7 (by decide))
      have h8 : (v 8) = .agg (pc (fun _ => 0) (fun _ => 0)) := hI.inv.val 8 (hD 8 (by decide))
      refine hI.val0 hL (by simp) rfl rfl ?_
      rw [show readsOf plan_9_16 9 = [(104, 6), (105, 7), (106, 8)] from rfl]
      exact give_eqP _ _ _ _ _ _ _ rfl h7 h8 ⟨by simp [beqb_self], Ext.refl _⟩
    · intro L v w hL hD hC hI
      refine ⟨fun _ => ?_, fun hw => by cases hw⟩
      have h6 : (v 6) = .bool (true) := hI.inv.val 6 (hD 6 (by decide))
      have h9 : (v 9) = .bool (true) := hI.inv.val 9 (hD 9 (by decide))
      refine hI.val0 hL (by simp) rfl rfl ?_
      rw [show readsOf plan_9_16 10 = [(104, 6), (107, 9)] from rfl]
      exact give_pick_t _ _ _ rfl h6 ⟨h9, Ext.refl _⟩
    · intro L v w hL hD hC hI
      refine ⟨fun _ => ?_, fun hw => by cases hw⟩
      have h10 : (v 10) = .bool (true) := hI.inv.val 10 (hD 10 (by decide))
      refine hI.val0 hL (by simp) rfl rfl ?_
      rw [show readsOf plan_9_16 11 = [(108, 10)] from rfl]
      exact ⟨h10, Ext.refl _⟩
    · intro L v w hL hD hC hI
      have hg : v 11 = .bool true := hI.inv.val 11 (hD 11 (by decide))
      refine ⟨fun _ => ?_, fun hw => by simp [wantedV, hg] at hw⟩
      have h11 : (v 11) = .bool (true) := hI.inv.val 11 (hD 11 (by decide))
      refine hI.val0 hL (by simp) rfl rfl ?_
      rw [show readsOf plan_9_16 12 = [(109, 11)] from rfl]
      exact ld_P (R_m.keep hI.inv.keep (by simp)) _ rfl rfl fun u hu => ⟨hu, Ext.refl _⟩
    · intro L v w hL hD hC hI
      have hg : v 11 = .bool true := hI.inv.val 11 (hD 11 (by decide))
      refine ⟨fun _ => ?_, fun hw => by simp [wantedV, hg] at hw⟩
      have h11 : (v 11) = .bool (true) := hI.inv.val 11 (hD 11 (by decide))
      refine hI.val0 hL (by simp) rfl rfl ?_
      rw [show readsOf plan_9_16 13 = [(109, 11)] from rfl]
      exact give_zeroP rfl ⟨rfl, Ext.refl _⟩
    · intro L v w hL hD hC hI
      have hg : v 11 = .bool true := hI.inv.val 11 (hD 11 (by decide))
      refine ⟨fun _ => ?_, fun hw => by simp [wantedV, hg] at hw⟩
      have h11 : (v 11) = .bool (true) := hI.inv.val 11 (hD 11 (by decide))
      have h12 : (v 12) = .agg (pc (fun _ => 0) (fun _ => 0)) := hI.inv.val 12 (hD 12 (by decide))
      have h13 : (v 13) = .agg (pc (fun _ => 0) (fun _ => 0)) := hI.inv.val 13 (hD 13 (by decide))
      refine hI.val0 hL (by simp) rfl rfl ?_
      rw [show readsOf plan_9_16 14 = [(109, 11), (110, 12), (111, 13)] from rfl]
      exact give_eqP _ _ _ _ _ _ _ rfl h12 h13 ⟨by simp [beqb_self], Ext.refl _⟩
    · intro L v w hL hD hC hI
      refine ⟨fun _ => ?_, fun hw => by cases hw⟩
      have h11 : (v 11) = .bool (true) := hI.inv.val 11 (hD 11 (by decide))
      have h14 : (v 14) = .bool (true) := hI.inv.val 14 (hD 14 (by decide))
      refine hI.val0 hL (by simp) rfl rfl ?_
      rw [show readsOf plan_9_16 15 = [(109, 11), (112, 14)] from rfl]
      exact give_pick_t _ _ _ rfl h11 ⟨h14, Ext.refl _⟩
    · intro L v w hL hD hC hI
      refine ⟨fun _ => ?_, fun hw => by cases hw⟩
      have h15 : (v 15) = .bool (true) := hI.inv.val 15 (hD 15 (by decide))
      refine hI.val0 hL (by simp) rfl rfl ?_
      rw [show readsOf plan_9_16 16 = [(113, 15)] from rfl]
      exact ⟨h15, Ext.refl _⟩
    · intro L v w hL hD hC hI
      have hg : v 16 = .bool true := hI.inv.val 16 (hD 16 (by decide))
      refine ⟨fun _ => ?_, fun hw => by simp [wantedV, hg] at hw⟩
      have h16 : (v 16) = .bool (true) := hI.inv.val 16 (hD 16 (by decide))
      refine hI.val0 hL (by simp) rfl rfl ?_
      rw [show readsOf plan_9_16 17 = [(114, 16)] from rfl]
      first | exact ⟨rfl, Ext.refl _⟩ | (go_simp; exact ⟨rfl, Ext.refl _⟩)
    · intro L v w hL hD hC hI
      have hg : v 16 = .bool true := hI.inv.val 16 (hD 16 (by decide))
      refine ⟨fun _ => ?_, fun hw => by simp [wantedV, hg] at hw⟩
      have h16 : (v 16) = .bool (true) := hI.inv.val 16 (hD 16 (by decide))
      refine hI.val0 hL (by simp) rfl rfl ?_
      rw [show readsOf plan_9_16 18 = [(114, 16)] from rfl]
      go_simp
      exact ⟨rfl, Ext.refl _⟩
    · intro L v w hL hD hC hI
      have hg : v 16 = .bool true := hI.inv.val 16 (hD 16 (by decide))
      refine ⟨fun _ => ?_, fun hw => by simp [wantedV, hg] at hw⟩
      have h16 : (v 16) = .bool (true) := hI.inv.val 16 (hD 16 (by decide))
      have h17 : (v 17) = errPoint := hI.inv.val 17 (hD 17 (by decide))
      have h18 : (v 18) = .iface 30 (.int .i64 29) := hI.inv.val 18 (hD 18 (by decide))
      refine hI.val0 hL (by simp) rfl rfl ?_
      rw [show readsOf plan_9_16 19 = [(114, 16), (115, 17), (116, 18)] from rfl]
      exact give_errEq _ _ _ rfl h17 h18 ⟨rfl, Ext.refl _⟩
    · intro L v w hL hD hC hI
      refine ⟨fun _ => ?_, fun hw => by cases hw⟩
      have h16 : (v 16) = .bool (true) := hI.inv.val 16 (hD 16 (by decide))
      have h19 : (v 19) = .bool (true) := hI.inv.val 19 (hD 19 (by decide))
      refine hI.val0 hL (by simp) rfl rfl ?_
      rw [show readsOf plan_9_16 20 = [(114, 16), (117, 19)] from rfl]
      exact give_pick_t _ _ _ rfl h16 ⟨h19, Ext.refl _⟩
    · intro L v w hL hD hC hI
      refine ⟨fun _ => ?_, fun hw => by cases hw⟩
      have h20 : (v 20) = .bool (true) := hI.inv.val 20 (hD 20 (by decide))
      refine hI.val0 hL (by simp) rfl rfl ?_
      rw [show readsOf plan_9_16 21 = [(118, 20)] from rfl]
      exact ⟨h20, Ext.refl _⟩
    · intro L v w hL hD hC hI
      have hg : v 21 = .bool true := hI.inv.val 21 (hD 21 (by decide))
      refine ⟨fun _ => ?_, fun hw => by simp [wantedV, hg] at hw⟩
      have h21 : (v 21) = .bool (true) := hI.inv.val 21 (hD 21 (by decide))
      refine hI.val0 hL (by simp) rfl rfl ?_
      rw [show readsOf plan_9_16 22 = [(119, 21)] from rfl]
      first | exact ⟨rfl, Ext.refl _⟩ | (go_simp; exact ⟨rfl, Ext.refl _⟩)
    · intro L v w hL hD hC hI
      have hg : v 21 = .bool true := hI.inv.val 21 (hD 21 (by decide))
      refine ⟨fun _ => ?_, fun hw => by simp [wantedV, hg] at hw⟩
      have h21 : (v 21) = .bool (true) := hI.inv.val 21 (hD 21 (by decide))
      refine hI.val0 hL (by simp) rfl rfl ?_
      rw [show readsOf plan_9_16 23 = [(119, 21)] from rfl]
      go_simp
      exact ⟨rfl, Ext.refl _⟩
    · intro L v w hL hD hC hI
      have hg : v 21 = .bool true := hI.inv.val 21 (hD 21 (by decide))
      refine ⟨fun _ => ?_, fun hw => by simp [wantedV, hg] at hw⟩
      have h21 : (v 21) = .bool (true) := hI.inv.val 21 (hD 21 (by decide))
      have h22 : (v 22) = errPoint := hI.inv.val 22 (hD 22 (by decide))
      have h23 : (v 23) = .iface 30 (.int .i64 29) := hI.inv.val 23 (hD 23 (by decide))
      refine hI.val0 hL (by simp) rfl rfl ?_
      rw [show readsOf plan_9_16 24 = [(119, 21), (120, 22), (121, 23)] from rfl]
      exact give_errEq _ _ _ rfl h22 h23 ⟨rfl, Ext.refl _⟩
    · intro L v w hL hD hC hI
      refine ⟨fun _ => ?_, fun hw => by cases hw⟩
      have h21 : (v 21) = .bool (true) := hI.inv.val 21 (hD 21 (by decide))
      have h24 : (v 24) = .bool (true) := hI.inv.val 24 (hD 24 (by decide))
      refine hI.val0 hL (by simp) rfl rfl ?_
      rw [show readsOf plan_9_16 25 = [(119, 21), (122, 24)] from rfl]
      exact give_pick_t _ _ _ rfl h21 ⟨h24, Ext.refl _⟩
    · intro L v w hL hD hC hI
      refine ⟨fun _ => ?_, fun hw => by cases hw⟩
      have h25 : (v 25) = .bool (true) := hI.inv.val 25 (hD 25 (by decide))
      refine hI.val0 hL (by simp) rfl rfl ?_
      rw [show readsOf plan_9_16 26 = [(123, 25)] from rfl]
      exact ⟨h25, Ext.refl _⟩
    · intro L v w hL hD hC hI
      have hg : v 26 = .bool true := hI.inv.val 26 (hD 26 (by decide))
      refine ⟨fun _ => ?_, fun hw => by simp [wantedV, hg] at hw⟩
      have h26 : (v 26) = .bool (true) := hI.inv.val 26 (hD 26 (by decide))
      refine hI.val0 hL (by simp) rfl rfl ?_
      rw [show readsOf plan_9_16 27 = [(124, 26)] from rfl]
      first | exact ⟨rfl, Ext.refl _⟩ | (go_simp; exact ⟨rfl, Ext.refl _⟩)
    · intro L v w hL hD hC hI
      have hg : v 26 = .bool true := hI.inv.val 26 (hD 26 (by decide))
      refine ⟨fun _ => ?_, fun hw => by simp [wantedV, hg] at hw⟩
      have h26 : (v 26) = .bool (true) := hI.inv.val 26 (hD 26 (by decide))
      refine hI.val0 hL (by simp) rfl rfl ?_
      rw [show readsOf plan_9_16 28 = [(124, 26)] from rfl]
      go_simp
      exact ⟨rfl, Ext.refl _⟩
    · intro L v w hL hD hC hI
      have hg : v 26 = .bool true := hI.inv.val 26 (hD 26 (by decide))
      refine ⟨fun _ => ?_, fun hw => by simp [wantedV, hg] at hw⟩
      have h26 : (v 26) = .bool (true) := hI.inv.val 26 (hD 26 (by decide))
      have h27 : (v 27) = errPoint := hI.inv.val 27 (hD 27 (by decide))
      have h28 : (v 28) = .iface 30 (.int .i64 29) := hI.inv.val 28 (hD 28 (by decide))
      refine hI.val0 hL (by simp) rfl rfl ?_
      rw [show readsOf plan_9_16 29 = [(124, 26), (125, 27), (126, 28)] from rfl]
      exact give_errEq _ _ _ rfl h27 h28 ⟨rfl, Ext.refl _⟩
    · intro L v w hL hD hC hI
      refine ⟨fun _ => ?_, fun hw => by cases hw⟩
      have h26 : (v 26) = .bool (true) := hI.inv.val 26 (hD 26 (by decide))
      have h29 : (v 29) = .bool (true) := hI.inv.val 29 (hD 29 (by decide))
      refine hI.val0 hL (by simp) rfl rfl ?_
      rw [show readsOf plan_9_16 30 = [(124, 26), (127, 29)] from rfl]
      exact give_pick_t _ _ _ rfl h26 ⟨h29, Ext.refl _⟩
    · intro L v w hL hD hC hI
      refine ⟨fun _ => ?_, fun hw => by cases hw⟩
      have h30 : (v 30) = .bool (true) := hI.inv.val 30 (hD 30 (by decide))
      refine hI.val0 hL (by simp) rfl rfl ?_
      rw [show readsOf plan_9_16 31 = [(128, 30)] from rfl]
      exact ⟨h30, Ext.refl _⟩
    intro L v15 W15 hL hI
    replace R_raw := R_raw.keep hI.inv.keep (by simp)
    replace R_p := R_p.keep hI.inv.keep (by simp)
    replace R_t := R_t.keep hI.inv.keep (by simp)
    replace R_u_ := R_u_.keep hI.inv.keep (by simp)
    replace R_m := R_m.keep hI.inv.keep (by simp)
    replace hn_12 := hn_12.keep hI.inv.keep (by simp)
    have hx' : Ext w W15 := hx.trans hI.inv.keep.to_ext
    have hs_98_16 : (v15 0) = .bool (true) := hI.inv.val 0 (hL 0 (by decide))
    have hs_99_16 : (v15 1) = .bool (true) := hI.inv.val 1 (hL 1 (by decide))
    have hs_104_16 : (v15 6) = .bool (true) := hI.inv.val 6 (hL 6 (by decide))
    have hs_109_16 : (v15 11) = .bool (true) := hI.inv.val 11 (hL 11 (by decide))
    have hs_114_16 : (v15 16) = .bool (true) := hI.inv.val 16 (hL 16 (by decide))
    have hs_115_16 : (v15 17) = errPoint := hI.inv.val 17 (hL 17 (by decide))
    have hs_119_16 : (v15 21) = .bool (true) := hI.inv.val 21 (hL 21 (by decide))
    have hs_120_16 : (v15 22) = errPoint := hI.inv.val 22 (hL 22 (by decide))
    have hs_124_16 : (v15 26) = .bool (true) := hI.inv.val 26 (hL 26 (by decide))
    have hs_125_16 : (v15 27) = errPoint := hI.inv.val 27 (hL 27 (by decide))
    have hs_6_16 : (v15 31) = .bool (true) := hI.inv.val 31 (hL 31 (by decide))
    clear hx hI hL hok L
    have hx := hx'
    clear hx'
    simp only [putP, Act.put, List.setIfInBounds_toArray, List.set_cons_zero, List.set_cons_succ, hs_98_16, hs_99_16, hs_104_16, hs_109_16, hs_114_16, hs_115_16, hs_119_16, hs_120_16, hs_124_16, hs_125_16, hs_6_16]
    go_wp2
    go_ret
    exact ⟨rfl, hx⟩
end Go.Proofs.Ytndohjgfjbopnaa
