/-
  Some points of the curve, as the statements choose them; the package curve's contracts said in points.
-/
import Derived.Test.YtndohjgfjbopnaaDec
import Derived.Test.YtndohjgfjbopnaaInn
set_option linter.unusedSimpArgs false
set_option linter.unusedVariables false
namespace Go.Cv
open Go.RowKit Go.Cv.Pr Go.Cv.Grp
theorem o2_ring {n : Nat} [NeZero n] (d : Fin n) : (0 - 1) * (0 - 1) - 0 * 0 = 1 + d * (0 * 0) * ((0 - 1) * (0 - 1)) := by grind
/-- The point of order 2. -/
def O2 : P7 := ⟨0, 0 - 1, o2_ring C7.d⟩
def someP (k : Nat → UInt8) : P7 := if (k 0 % 3 == 0) = true then (Pt.mul (V k) B7).add O2 else Pt.mul (V k) B7
theorem fb_O2 : fb (0 - 1) = fb O2.y := rfl
end Go.Cv
namespace Go.Proofs.Ytndohjgfjbopnaa
open Go.RowKit Go.Cv Go.Cv.Pr Go.Cv.Grp
theorem times_pt (k : Nat → UInt8) (P : P7) (w : World) :
    Calls Try.prog 50 #[.agg (bcells k), .agg (pc (fb P.x) (fb P.y))] w fun e w' => e = .returned (.tuple #[.agg (pc (fb (Pt.mul (V k) P).x) (fb (Pt.mul (V k) P).y)), .nilIface]) ∧ Ext w w' :=
  times_on (tf_V_fb _) (tf_V_fb _) w
theorem add_pt (P Q : P7) (w : World) :
    Calls Try.prog 44 #[.agg (pc (fb P.x) (fb P.y)), .agg (pc (fb Q.x) (fb Q.y))] w fun e w' => e = .returned (.tuple #[.agg (pc (fb (P.add Q).x) (fb (P.add Q).y)), .nilIface]) ∧ Ext w w' :=
  add_on (tf_V_fb _) (tf_V_fb _) (tf_V_fb _) (tf_V_fb _) w
theorem on_pt (P : P7) : C7.on (tf (V (fb P.x))) (tf (V (fb P.y))) := by rw [tf_V_fb, tf_V_fb]; exact P.on
theorem neg_pt (P : P7) (w : World) :
    Calls Try.prog 45 #[.agg (pc (fb P.x) (fb P.y))] w fun e w' => e = .returned (.tuple #[.agg (pc (fb P.neg.x) (fb P.neg.y)), .nilIface]) ∧ Ext w w' := by
  have h := neg_on (on_pt P) w
  rw [tf_V_fb, tf_V_fb] at h
  exact h
theorem enc_pt (P : P7) (w : World) :
    Calls Try.prog 54 #[.agg (pc (fb P.x) (fb P.y))] w fun e w' => e = .returned (.tuple #[.agg (bcells (encF P.x P.y)), .nilIface]) ∧ Ext w w' := by
  have h := enc_on (on_pt P) w
  rw [tf_V_fb, tf_V_fb] at h
  exact h
def plan_42_0 : List Plan := [⟨[], []⟩, ⟨[], []⟩, ⟨[], []⟩]
def plan_42_1 : List Plan := [⟨[], []⟩, ⟨[], []⟩, ⟨[0, 1], [(9, 0), (10, 1)]⟩, ⟨[0, 1, 2], [(11, 2)]⟩, ⟨[0, 1, 2, 3], [(8, 3)]⟩, ⟨[0, 1, 2, 3], [(8, 3)]⟩, ⟨[], []⟩, ⟨[0, 1, 2, 3, 4, 6], [(12, 4), (4, 6)]⟩, ⟨[0, 1, 2, 3, 4, 5, 6, 7], [(13, 5)]⟩]
def plan_42_7 : List Plan := [⟨[], []⟩, ⟨[0], [(33, 0)]⟩, ⟨[0, 1], []⟩]
def plan_42_5 : List Plan := [⟨[], []⟩, ⟨[], []⟩, ⟨[1], [(23, 1)]⟩, ⟨[1, 2], [(24, 2)]⟩, ⟨[1, 2, 3], [(25, 3)]⟩, ⟨[0, 1, 2, 3, 4], [(22, 0), (26, 4)]⟩, ⟨[0, 1, 2, 3, 4, 5], [(27, 5)]⟩, ⟨[0, 1, 2, 3, 4, 5, 6], [(21, 6)]⟩, ⟨[0, 1, 2, 3, 4, 5, 6], [(21, 6)]⟩, ⟨[], []⟩, ⟨[0, 1, 2, 3, 4, 5, 6, 7, 9], [(28, 7), (6, 9)]⟩, ⟨[0, 1, 2, 3, 4, 5, 6, 7, 8, 9, 10], [(29, 8)]⟩]
def plan_42_6 : List Plan := [⟨[], []⟩, ⟨[], []⟩, ⟨[1], [(31, 1)]⟩, ⟨[0], [(30, 0)]⟩, ⟨[0, 1, 2, 3], [(32, 2)]⟩]
set_option maxRecDepth 20000 in
set_option maxHeartbeats 8000000 in
theorem some_any (k : Nat → UInt8) (w : World) :
    Calls Try.prog 42 #[.agg (bcells k)] w fun e w' => e = .returned (.tuple #[.agg (pc (fb (someP k).x) (fb (someP k).y)), .bool true]) ∧ Ext w w' := by
  obtain ⟨S, hS⟩ : ∃ S, S = someP k := ⟨_, rfl⟩
  rw [← hS]
  unfold someP at hS
  replace hS := Lib.hid hS
  go_enter Try.func42, Try.ntmps42
  have hx : Ext w w := Ext.refl w
  go_upto_region 0 with fail
  have hok : TrsOk [] w.heap.size ([⟨some 0, 0, 22, none, fun cs => (Value.agg (List.toArray cs)) = .agg (bcells (k)), fun _ => True⟩, ⟨some 1, 0, 43, none, fun cs => (Value.agg (List.toArray cs)) = .agg (pc (fun _ => 0) (fun _ => 0)), fun _ => True⟩] : List Trk) := ⟨by simp, by simp, by simp, by simp⟩
  refine wp_region_text (InvN [] (fun j u => match j with | 2 => u = .bool false | _ => True) (fun _ => none) (fun _ => none) [⟨some 0, 0, 22, none, fun cs => (Value.agg (List.toArray cs)) = .agg (bcells (k)), fun _ => True⟩, ⟨some 1, 0, 43, none, fun cs => (Value.agg (List.toArray cs)) = .agg (pc (fun _ => 0) (fun _ => 0)), fun _ => True⟩] w) plan_42_0 [(1, 0), (2, 1), (3, 2)] 34 rfl (by kernel_rfl) (InvN.of (Inv.start0 hok (by simp))) ⟨?_, ?_, ?_, trivial⟩ ?_
  · intro L v w hL hD hC hI
    refine ⟨fun _ => ?_, fun hw => by cases hw⟩
    refine InvN.alloc_step hok hI hL ⟨some 0, 0, 22, none, fun cs => (Value.agg (List.toArray cs)) = .agg (bcells (k)), fun _ => True⟩ (by simp) rfl (by simp) (by intro s hs; cases hs) rfl rfl ?_
    rw [show readsOf plan_42_0 0 = [] from rfl]
    exact ⟨trivial, rfl, (bcells k).toList, by first | rfl | (rw [Array.toArray_toList]; rfl), by show (Value.agg _ = Value.agg _); rw [Array.toArray_toList]⟩
  · intro L v w hL hD hC hI
    refine ⟨fun _ => ?_, fun hw => by cases hw⟩
    refine InvN.alloc_step hok hI hL ⟨some 1, 0, 43, none, fun cs => (Value.agg (List.toArray cs)) = .agg (pc (fun _ => 0) (fun _ => 0)), fun _ => True⟩ (by simp) rfl (by simp) (by intro s hs; cases hs) rfl rfl ?_
    rw [show readsOf plan_42_0 1 = [] from rfl]
    go_simp
    first | exact ⟨rfl, pcL (fun _ => 0) (fun _ => 0), rfl, rfl⟩ | exact ⟨trivial, rfl, pcL (fun _ => 0) (fun _ => 0), rfl, rfl⟩ | exact ⟨rfl, (bcells fun _ => 0).toList, by rw [Array.toArray_toList], by rw [Array.toArray_toList]⟩
  · intro L v w hL hD hC hI
    refine ⟨fun _ => ?_, fun hw => by cases hw⟩
    refine hI.val0 hL (by simp) rfl rfl ?_
    rw [show readsOf plan_42_0 2 = [] from rfl]
    first | exact ⟨rfl, Ext.refl _⟩ | (go_simp; exact ⟨rfl, Ext.refl _⟩)
  intro L v1 W1 hL hI
  obtain ⟨bk, cs, hb_bk, lo_bk, hr, hn, ho⟩ := hI.inv.row_made ⟨some 0, 0, 22, none, fun cs => (Value.agg (List.toArray cs)) = .agg (bcells (k)), fun _ => True⟩ (by simp) 0 rfl (hL 0 (by decide))
  have R_bk : RV W1 bk 22 (fun u => u = .agg (bcells (k))) := ⟨cs, hr, ho (by intro s hs; cases hs)⟩
  clear hr hn ho
  obtain ⟨r, cs, hb_r, lo_r, hr, hn, ho⟩ := hI.inv.row_made ⟨some 1, 0, 43, none, fun cs => (Value.agg (List.toArray cs)) = .agg (pc (fun _ => 0) (fun _ => 0)), fun _ => True⟩ (by simp) 1 rfl (hL 1 (by decide))
  have R_r : RV W1 r 43 (fun u => u = .agg (pc (fun _ => 0) (fun _ => 0))) := ⟨cs, hr, ho (by intro s hs; cases hs)⟩
  clear hr hn ho
  have ne_bk_r : bk ≠ r := fun e => hI.inv.apart ⟨some 0, 0, 22, none, fun cs => (Value.agg (List.toArray cs)) = .agg (bcells (k)), fun _ => True⟩ (by simp) ⟨some 1, 0, 43, none, fun cs => (Value.agg (List.toArray cs)) = .agg (pc (fun _ => 0) (fun _ => 0)), fun _ => True⟩ (by simp) 0 1 rfl rfl (by decide) (hL 0 (by decide)) (hL 1 (by decide)) (by rw [hb_bk, hb_r, e])
  have hx' : Ext w W1 := hx.trans hI.inv.keep.to_ext
  have lt_bk : bk < W1.heap.size := R_bk.lt
  have bs_bk : w.heap.size ≤ bk := Nat.le_trans hx.size lo_bk
  have lt_r : r < W1.heap.size := R_r.lt
  have bs_r : w.heap.size ≤ r := Nat.le_trans hx.size lo_r
  have hs_3_0 : (v1 2) = .bool false := hI.inv.val 2 (hL 2 (by decide))
  clear hx hI hL hok L
  have hx := hx'
  clear hx'
  simp only [putP, Act.put, List.setIfInBounds_toArray, List.set_cons_zero, List.set_cons_succ, hb_bk, hb_r, hs_3_0]
  go_upto_region 1 with fail
  have hok : TrsOk [] W1.heap.size ([⟨some 6, 0, 43, some 7, fun cs => (Value.agg (List.toArray cs)) = .agg (pc (fun _ => 0) (fun _ => 0)), fun cs => (Value.agg (List.toArray cs)) = .agg (pc (fb (Pt.mul (V (k)) (B7)).x) (fb (Pt.mul (V (k)) (B7)).y))⟩] : List Trk) := ⟨by simp, by simp, by simp, by simp⟩
  refine wp_region_plan (InvN [] (fun j u => match j with | 0 => u = .agg (bcells (k)) | 1 => u = .agg (pc (fb (B7).x) (fb (B7).y)) | 2 => u = .tuple #[.agg (pc (fb (Pt.mul (V (k)) (B7)).x) (fb (Pt.mul (V (k)) (B7)).y)), .nilIface] | 3 => u = .tuple #[.agg (pc (fb (Pt.mul (V (k)) (B7)).x) (fb (Pt.mul (V (k)) (B7)).y)), .nilIface] | 4 => u = .agg (pc (fb (Pt.mul (V (k)) (B7)).x) (fb (Pt.mul (V (k)) (B7)).y)) | 5 => u = .nilIface | 8 => u = .nilIface | _ => True) (fun _ => none) (fun _ => none) [⟨some 6, 0, 43, some 7, fun cs => (Value.agg (List.toArray cs)) = .agg (pc (fun _ => 0) (fun _ => 0)), fun cs => (Value.agg (List.toArray cs)) = .agg (pc (fb (Pt.mul (V (k)) (B7)).x) (fb (Pt.mul (V (k)) (B7)).y))⟩] W1) plan_42_1 [(9, 0), (10, 1), (11, 2), (8, 3), (12, 4), (13, 5), (4, 6), (5, 8)] 34 (by kernel_rfl) rfl (by kernel_rfl) (InvN.of (Inv.start hok (by simp))) ⟨?_, ?_, ?_, ?_, ?_, ?_, ?_, ?_, ?_, trivial⟩ ?_
  · intro L v w hL hD hC hI
    refine ⟨fun _ => ?_, fun hw => by cases hw⟩
    refine hI.val0 hL (by simp) rfl rfl ?_
    rw [show readsOf plan_42_1 0 = [] from rfl]
    exact ld_B (R_bk.keep hI.inv.keep (by simp)) _ rfl rfl fun u hu => ⟨hu, Ext.refl _⟩
  · intro L v w hL hD hC hI
    refine ⟨fun _ => ?_, fun hw => by cases hw⟩
    refine hI.val0 hL (by simp) rfl rfl ?_
    rw [show readsOf plan_42_1 1 = [] from rfl]
    refine give_call _ _ _ _ rfl rfl Try.func30 (by kernel_rfl) (by kernel_rfl) ?_
    refine Calls.mono (base_any w) ?_
    rintro e w' ⟨rfl, hx⟩
    exact ⟨_, rfl, rfl, hx⟩
  · intro L v w hL hD hC hI
    refine ⟨fun _ => ?_, fun hw => by cases hw⟩
    have h0 : (v 0) = .agg (bcells (k)) := hI.inv.val 0 (hD 0 (by decide))
    have h1 : (v 1) = .agg (pc (fb (B7).x) (fb (B7).y)) := hI.inv.val 1 (hD 1 (by decide))
    refine hI.val0 hL (by simp) rfl rfl ?_
    rw [show readsOf plan_42_1 2 = [(9, 0), (10, 1)] from rfl]
    refine give_call _ _ _ _ rfl rfl Try.func50 (by kernel_rfl) (by kernel_rfl) ?_
    refine Calls.mono (calls_eq (times_pt (k) (B7) w) (args' := #[v 0, v 1]) (by rw [h0, h1])) ?_
    rintro e w' ⟨rfl, hx⟩
    exact ⟨_, rfl, rfl, hx⟩
  · intro L v w hL hD hC hI
    refine ⟨fun _ => ?_, fun hw => by cases hw⟩
    have h2 : (v 2) = .tuple #[.agg (pc (fb (Pt.mul (V (k)) (B7)).x) (fb (Pt.mul (V (k)) (B7)).y)), .nilIface] := hI.inv.val 2 (hD 2 (by decide))
    refine hI.val0 hL (by simp) rfl rfl ?_
    rw [show readsOf plan_42_1 3 = [(11, 2)] from rfl]
    exact ⟨h2, Ext.refl _⟩
  · intro L v w hL hD hC hI
    refine ⟨fun _ => ?_, fun hw => by cases hw⟩
    have h3 : (v 3) = .tuple #[.agg (pc (fb (Pt.mul (V (k)) (B7)).x) (fb (Pt.mul (V (k)) (B7)).y)), .nilIface] := hI.inv.val 3 (hD 3 (by decide))
    refine hI.val0 hL (by simp) rfl rfl ?_
    rw [show readsOf plan_42_1 4 = [(8, 3)] from rfl]
    simp only [putP, Act.put, List.setIfInBounds_toArray, List.set_cons_zero, List.set_cons_succ, h3]
    go_simp
    exact ⟨rfl, Ext.refl _⟩
  · intro L v w hL hD hC hI
    refine ⟨fun _ => ?_, fun hw => by cases hw⟩
    have h3 : (v 3) = .tuple #[.agg (pc (fb (Pt.mul (V (k)) (B7)).x) (fb (Pt.mul (V (k)) (B7)).y)), .nilIface] := hI.inv.val 3 (hD 3 (by decide))
    refine hI.val0 hL (by simp) rfl rfl ?_
    rw [show readsOf plan_42_1 5 = [(8, 3)] from rfl]
    simp only [putP, Act.put, List.setIfInBounds_toArray, List.set_cons_zero, List.set_cons_succ, h3]
    go_simp
    exact ⟨rfl, Ext.refl _⟩
  · intro L v w hL hD hC hI
    refine ⟨fun _ => ?_, fun hw => by cases hw⟩
    refine InvN.alloc_step hok hI hL ⟨some 6, 0, 43, some 7, fun cs => (Value.agg (List.toArray cs)) = .agg (pc (fun _ => 0) (fun _ => 0)), fun cs => (Value.agg (List.toArray cs)) = .agg (pc (fb (Pt.mul (V (k)) (B7)).x) (fb (Pt.mul (V (k)) (B7)).y))⟩ (by simp) rfl (by simp) (by intro s hs; cases hs; exact not_yet hC hL (by decide)) rfl rfl ?_
    rw [show readsOf plan_42_1 6 = [] from rfl]
    go_simp
    first | exact ⟨rfl, pcL (fun _ => 0) (fun _ => 0), rfl, rfl⟩ | exact ⟨trivial, rfl, pcL (fun _ => 0) (fun _ => 0), rfl, rfl⟩ | exact ⟨rfl, (bcells fun _ => 0).toList, by rw [Array.toArray_toList], by rw [Array.toArray_toList]⟩
  · intro L v w hL hD hC hI
    refine ⟨fun _ => ?_, fun hw => by cases hw⟩
    have h4 : (v 4) = .agg (pc (fb (Pt.mul (V (k)) (B7)).x) (fb (Pt.mul (V (k)) (B7)).y)) := hI.inv.val 4 (hD 4 (by decide))
    refine InvN.store_step hok hI hL ⟨some 6, 0, 43, some 7, fun cs => (Value.agg (List.toArray cs)) = .agg (pc (fun _ => 0) (fun _ => 0)), fun cs => (Value.agg (List.toArray cs)) = .agg (pc (fb (Pt.mul (V (k)) (B7)).x) (fb (Pt.mul (V (k)) (B7)).y))⟩ (by simp) rfl (by simp) (by intro k hk; cases hk; exact hD 6 (by decide)) rfl rfl (fun cs h => by rw [pcL_of h]; exact noI_pc _ _) ?_
    intro n cs hb hR hold
    change v 6 = .pointer (some ⟨n, 0, none⟩) at hb
    rw [show readsOf plan_42_1 7 = [(12, 4), (4, 6)] from rfl]
    exact st_P hR (by rw [pcL_of hold]; exact pcL_len _ _) _ _ rfl hb h4 fun w' cs' hr he hk => ⟨trivial, hk, cs', hr, he⟩
  · intro L v w hL hD hC hI
    refine ⟨fun _ => ?_, fun hw => by cases hw⟩
    have h5 : (v 5) = .nilIface := hI.inv.val 5 (hD 5 (by decide))
    refine hI.val0 hL (by simp) rfl rfl ?_
    rw [show readsOf plan_42_1 8 = [(13, 5)] from rfl]
    exact ⟨h5, Ext.refl _⟩
  intro L v2 W2 hL hI
  obtain ⟨p, cs, hb_p, lo_p, hr, hn, ho⟩ := hI.inv.row_made ⟨some 6, 0, 43, some 7, fun cs => (Value.agg (List.toArray cs)) = .agg (pc (fun _ => 0) (fun _ => 0)), fun cs => (Value.agg (List.toArray cs)) = .agg (pc (fb (Pt.mul (V (k)) (B7)).x) (fb (Pt.mul (V (k)) (B7)).y))⟩ (by simp) 6 rfl (hL 6 (by decide))
  have R_p : RV W2 p 43 (fun u => u = .agg (pc (fb (Pt.mul (V (k)) (B7)).x) (fb (Pt.mul (V (k)) (B7)).y))) := ⟨cs, hr, hn 7 rfl (hL 7 (by decide))⟩
  clear hr hn ho
  replace R_bk := R_bk.keep hI.inv.keep (by simp)
  replace R_r := R_r.keep hI.inv.keep (by simp)
  have ne_bk_p : bk ≠ p := Nat.ne_of_lt (Nat.lt_of_lt_of_le lt_bk lo_p)
  have ne_r_p : r ≠ p := Nat.ne_of_lt (Nat.lt_of_lt_of_le lt_r lo_p)
  replace lt_bk := Nat.lt_of_lt_of_le lt_bk hI.inv.keep.size
  replace lt_r := Nat.lt_of_lt_of_le lt_r hI.inv.keep.size
  have hx' : Ext w W2 := hx.trans hI.inv.keep.to_ext
  have lt_p : p < W2.heap.size := R_p.lt
  have bs_p : w.heap.size ≤ p := Nat.le_trans hx.size lo_p
  have hs_5_1 : (v2 8) = .nilIface := hI.inv.val 8 (hL 8 (by decide))
  clear hx hI hL hok L
  have hx := hx'
  clear hx'
  simp only [putP, Act.put, List.setIfInBounds_toArray, List.set_cons_zero, List.set_cons_succ, hb_p, hs_5_1]
  have e1 := R_bk.byte (i := 0) (by decide)
  cases hb : (k 0 % 3 == 0)
  · have hS1 : S = Pt.mul (V k) B7 := by rw [hS.out, if_neg (by rw [hb]; decide)]
    replace hS := Lib.hid hS1
    clear hS1
    go_upto_region 7 with fail
    have hok : TrsOk [r] W2.heap.size ([⟨none, r, 43, some 1, fun cs => (Value.agg (List.toArray cs)) = .agg (pc (fun _ => 0) (fun _ => 0)), fun cs => (Value.agg (List.toArray cs)) = .agg (pc (fb (Pt.mul (V (k)) (B7)).x) (fb (Pt.mul (V (k)) (B7)).y))⟩] : List Trk) := ⟨by simp [R_r.lt], by simp, by simp, by simp⟩
    have noi_r : NoI W2 r := R_r.noP
    refine wp_region_text (InvN [r] (fun j u => match j with | 0 => u = .agg (pc (fb (Pt.mul (V (k)) (B7)).x) (fb (Pt.mul (V (k)) (B7)).y)) | 2 => u = .bool true | _ => True) (fun _ => none) (fun _ => none) [⟨none, r, 43, some 1, fun cs => (Value.agg (List.toArray cs)) = .agg (pc (fun _ => 0) (fun _ => 0)), fun cs => (Value.agg (List.toArray cs)) = .agg (pc (fb (Pt.mul (V (k)) (B7)).x) (fb (Pt.mul (V (k)) (B7)).y))⟩] W2) plan_42_7 [(33, 0), (3, 2)] 34 rfl (by kernel_rfl) (InvN.of (Inv.start0 hok (by
        simp only [List.forall_mem_cons, List.not_mem_nil, false_implies, implies_true, and_true]
        exact fun _ => R_r))) ⟨?_, ?_, ?_, trivial⟩ ?_
    · intro L v w hL hD hC hI
      refine ⟨fun _ => ?_, fun hw => by cases hw⟩
      refine hI.val0 hL (by simp) rfl rfl ?_
      rw [show readsOf plan_42_7 0 = [] from rfl]
      exact ld_P (R_p.keep hI.inv.keep (by simp [ne_r_p, Ne.symm ne_r_p])) _ rfl rfl fun u hu => ⟨hu, Ext.refl _⟩
    · intro L v w hL hD hC hI
      refine ⟨fun _ => ?_, fun hw => by cases hw⟩
      have h0 : (v 0) = .agg (pc (fb (Pt.mul (V (k)) (B7)).x) (fb (Pt.mul (V (k)) (B7)).y)) := hI.inv.val 0 (hD 0 (by decide))
      refine InvN.store_step hok hI hL ⟨none, r, 43, some 1, fun cs => (Value.agg (List.toArray cs)) = .agg (pc (fun _ => 0) (fun _ => 0)), fun cs => (Value.agg (List.toArray cs)) = .agg (pc (fb (Pt.mul (V (k)) (B7)).x) (fb (Pt.mul (V (k)) (B7)).y))⟩ (by simp) rfl (by simp) (by intro k hk; cases hk) rfl rfl (fun cs h => by rw [pcL_of h]; exact noI_pc _ _) ?_
      intro n cs hb hR hold
      change n = r at hb
      subst hb
      rw [show readsOf plan_42_7 1 = [(33, 0)] from rfl]
      exact st_P hR (by rw [pcL_of hold]; exact pcL_len _ _) _ _ rfl rfl h0 fun w' cs' hr he hk => ⟨trivial, hk, cs', hr, he⟩
    · intro L v w hL hD hC hI
      refine ⟨fun _ => ?_, fun hw => by cases hw⟩
      refine hI.val0 hL (by simp) rfl rfl ?_
      rw [show readsOf plan_42_7 2 = [] from rfl]
      first | exact ⟨rfl, Ext.refl _⟩ | (go_simp; exact ⟨rfl, Ext.refl _⟩)
    intro L v3 W3 hL hI
    have N_r : RV W3 r 43 (fun u => u = .agg (pc (fb (Pt.mul (V (k)) (B7)).x) (fb (Pt.mul (V (k)) (B7)).y))) := hI.inv.row_new ⟨none, r, 43, some 1, fun cs => (Value.agg (List.toArray cs)) = .agg (pc (fun _ => 0) (fun _ => 0)), fun cs => (Value.agg (List.toArray cs)) = .agg (pc (fb (Pt.mul (V (k)) (B7)).x) (fb (Pt.mul (V (k)) (B7)).y))⟩ (by simp) rfl 1 rfl (hL 1 (by decide))
    replace R_bk := R_bk.keep hI.inv.keep (by simp [ne_bk_r, Ne.symm ne_bk_r])
    replace R_p := R_p.keep hI.inv.keep (by simp [ne_r_p, Ne.symm ne_r_p])
    clear noi_r
    clear R_r
    have R_r := N_r
    clear N_r
    replace lt_bk := Nat.lt_of_lt_of_le lt_bk hI.inv.keep.size
    replace lt_r := Nat.lt_of_lt_of_le lt_r hI.inv.keep.size
    replace lt_p := Nat.lt_of_lt_of_le lt_p hI.inv.keep.size
    have hx' : Ext w W3 := Ext.keep_ hx hI.inv.keep (by simp only [List.forall_mem_cons, List.not_mem_nil, false_implies, implies_true, and_true]; exact bs_r)
    have hs_3_7 : (v3 2) = .bool true := hI.inv.val 2 (hL 2 (by decide))
    clear hx hI hL hok L
    have hx := hx'
    clear hx'
    simp only [putP, Act.put, List.setIfInBounds_toArray, List.set_cons_zero, List.set_cons_succ, hs_3_7]
    go_wp2
    rw [hS.out]
    refine bodyPost_ret (results_P2 rfl _ R_r rfl) rfl ?_
    refine ⟨?_, hx⟩
    rfl
  · have hS1 : S = (Pt.mul (V k) B7).add O2 := by rw [hS.out, if_pos hb]
    replace hS := Lib.hid hS1
    clear hS1
    go_upto_region 5 with fail
    have hok : TrsOk [] W2.heap.size ([⟨some 9, 0, 43, some 10, fun cs => (Value.agg (List.toArray cs)) = .agg (pc (fun _ => 0) (fun _ => 0)), fun cs => (Value.agg (List.toArray cs)) = .agg (pc (fb ((Pt.mul (V (k)) (B7)).add (O2)).x) (fb ((Pt.mul (V (k)) (B7)).add (O2)).y))⟩] : List Trk) := ⟨by simp, by simp, by simp, by simp⟩
    refine wp_region_plan (InvN [] (fun j u => match j with | 0 => u = .agg (pc (fb (Pt.mul (V (k)) (B7)).x) (fb (Pt.mul (V (k)) (B7)).y)) | 3 => u = .agg (bcells (fb ((0) - (1)))) | 4 => u = .agg (pc (fun _ => 0) (fb ((0) - (1)))) | 5 => u = .tuple #[.agg (pc (fb ((Pt.mul (V (k)) (B7)).add (O2)).x) (fb ((Pt.mul (V (k)) (B7)).add (O2)).y)), .nilIface] | 6 => u = .tuple #[.agg (pc (fb ((Pt.mul (V (k)) (B7)).add (O2)).x) (fb ((Pt.mul (V (k)) (B7)).add (O2)).y)), .nilIface] | 7 => u = .agg (pc (fb ((Pt.mul (V (k)) (B7)).add (O2)).x) (fb ((Pt.mul (V (k)) (B7)).add (O2)).y)) | 8 => u = .nilIface | 11 => u = .nilIface | _ => True) (fun j => match j with | 1 => some (1) | 2 => some ((0) - (1)) | _ => none) (fun _ => none) [⟨some 9, 0, 43, some 10, fun cs => (Value.agg (List.toArray cs)) = .agg (pc (fun _ => 0) (fun _ => 0)), fun cs => (Value.agg (List.toArray cs)) = .agg (pc (fb ((Pt.mul (V (k)) (B7)).add (O2)).x) (fb ((Pt.mul (V (k)) (B7)).add (O2)).y))⟩] W2) plan_42_5 [(22, 0), (23, 1), (24, 2), (25, 3), (26, 4), (27, 5), (21, 6), (28, 7), (29, 8), (6, 9), (7, 11)] 34 (by kernel_rfl) rfl (by kernel_rfl) (InvN.of (Inv.start hok (by simp))) ⟨?_, ?_, ?_, ?_, ?_, ?_, ?_, ?_, ?_, ?_, ?_, ?_, trivial⟩ ?_
    · intro L v w hL hD hC hI
      refine ⟨fun _ => ?_, fun hw => by cases hw⟩
      refine hI.val0 hL (by simp) rfl rfl ?_
      rw [show readsOf plan_42_5 0 = [] from rfl]
      exact ld_P (R_p.keep hI.inv.keep (by simp)) _ rfl rfl fun u hu => ⟨hu, Ext.refl _⟩
    · intro L v w hL hD hC hI
      refine ⟨fun _ => ?_, fun hw => by cases hw⟩
      refine hI.numv _ hL (by simp) rfl rfl (fun _ => trivial) ?_
      rw [show readsOf plan_42_5 1 = [] from rfl]
      go_simp
      exact ⟨NF.one _ _, ext_alloc _ _⟩
    · intro L v w hL hD hC hI
      refine ⟨fun _ => ?_, fun hw => by cases hw⟩
      have h1 : NF w (v 1) (1) := hI.num.n 1 _ (hD 1 (by decide)) rfl
      refine hI.numv _ hL (by simp) rfl rfl (fun _ => trivial) ?_
      rw [show readsOf plan_42_5 2 = [(23, 1)] from rfl]
      refine give_call _ _ _ _ rfl rfl Try.func24 (by kernel_rfl) (by kernel_rfl) ?_
      refine Calls.mono (nsub (NF.nil _) h1) ?_
      rintro e w' ⟨r, rfl, hr, hx⟩
      exact ⟨r, rfl, hr, hx⟩
    · intro L v w hL hD hC hI
      refine ⟨fun _ => ?_, fun hw => by cases hw⟩
      have h2 : NF w (v 2) ((0) - (1)) := hI.num.n 2 _ (hD 2 (by decide)) rfl
      refine hI.val0 hL (by simp) rfl rfl ?_
      rw [show readsOf plan_42_5 3 = [(24, 2)] from rfl]
      refine give_call _ _ _ _ rfl rfl Try.func17 (by kernel_rfl) (by kernel_rfl) ?_
      refine Calls.mono (nbytes h2) ?_
      rintro e w' ⟨rfl, hx⟩
      exact ⟨_, rfl, rfl, hx⟩
    · intro L v w hL hD hC hI
      refine ⟨fun _ => ?_, fun hw => by cases hw⟩
      have h3 : (v 3) = .agg (bcells (fb ((0) - (1)))) := hI.inv.val 3 (hD 3 (by decide))
      refine hI.val0 hL (by simp) rfl rfl ?_
      rw [show readsOf plan_42_5 4 = [(25, 3)] from rfl]
      simp only [putP, Act.put, List.setIfInBounds_toArray, List.set_cons_zero, List.set_cons_succ, h3]
      go_simp
      exact ⟨rfl, Ext.refl _⟩
    · intro L v w hL hD hC hI
      refine ⟨fun _ => ?_, fun hw => by cases hw⟩
      have h0 : (v 0) = .agg (pc (fb (Pt.mul (V (k)) (B7)).x) (fb (Pt.mul (V (k)) (B7)).y)) := hI.inv.val 0 (hD 0 (by decide))
      have h4 : (v 4) = .agg (pc (fun _ => 0) (fb ((0) - (1)))) := hI.inv.val 4 (hD 4 (by decide))
      refine hI.val0 hL (by simp) rfl rfl ?_
      rw [show readsOf plan_42_5 5 = [(22, 0), (26, 4)] from rfl]
      refine give_call _ _ _ _ rfl rfl Try.func44 (by kernel_rfl) (by kernel_rfl) ?_
      refine Calls.mono (by have := add_pt (Pt.mul (V (k)) (B7)) O2 w; rw [show O2.x = 0 from rfl, fb_0, ← fb_O2] at this; exact calls_eq this (args' := #[v 0, v 4]) (by rw [h0, h4])) ?_
      rintro e w' ⟨rfl, hx⟩
      exact ⟨_, rfl, rfl, hx⟩
    · intro L v w hL hD hC hI
      refine ⟨fun _ => ?_, fun hw => by cases hw⟩
      have h5 : (v 5) = .tuple #[.agg (pc (fb ((Pt.mul (V (k)) (B7)).add (O2)).x) (fb ((Pt.mul (V (k)) (B7)).add (O2)).y)), .nilIface] := hI.inv.val 5 (hD 5 (by decide))
      refine hI.val0 hL (by simp) rfl rfl ?_
      rw [show readsOf plan_42_5 6 = [(27, 5)] from rfl]
      exact ⟨h5, Ext.refl _⟩
    · intro L v w hL hD hC hI
      refine ⟨fun _ => ?_, fun hw => by cases hw⟩
      have h6 : (v 6) = .tuple #[.agg (pc (fb ((Pt.mul (V (k)) (B7)).add (O2)).x) (fb ((Pt.mul (V (k)) (B7)).add (O2)).y)), .nilIface] := hI.inv.val 6 (hD 6 (by decide))
      refine hI.val0 hL (by simp) rfl rfl ?_
      rw [show readsOf plan_42_5 7 = [(21, 6)] from rfl]
      simp only [putP, Act.put, List.setIfInBounds_toArray, List.set_cons_zero, List.set_cons_succ, h6]
      go_simp
      exact ⟨rfl, Ext.refl _⟩
    · intro L v w hL hD hC hI
      refine ⟨fun _ => ?_, fun hw => by cases hw⟩
      have h6 : (v 6) = .tuple #[.agg (pc (fb ((Pt.mul (V (k)) (B7)).add (O2)).x) (fb ((Pt.mul (V (k)) (B7)).add (O2)).y)), .nilIface] := hI.inv.val 6 (hD 6 (by decide))
      refine hI.val0 hL (by simp) rfl rfl ?_
      rw [show readsOf plan_42_5 8 = [(21, 6)] from rfl]
      simp only [putP, Act.put, List.setIfInBounds_toArray, List.set_cons_zero, List.set_cons_succ, h6]
      go_simp
      exact ⟨rfl, Ext.refl _⟩
    · intro L v w hL hD hC hI
      refine ⟨fun _ => ?_, fun hw => by cases hw⟩
      refine InvN.alloc_step hok hI hL ⟨some 9, 0, 43, some 10, fun cs => (Value.agg (List.toArray cs)) = .agg (pc (fun _ => 0) (fun _ => 0)), fun cs => (Value.agg (List.toArray cs)) = .agg (pc (fb ((Pt.mul (V (k)) (B7)).add (O2)).x) (fb ((Pt.mul (V (k)) (B7)).add (O2)).y))⟩ (by simp) rfl (by simp) (by intro s hs; cases hs; exact not_yet hC hL (by decide)) rfl rfl ?_
      rw [show readsOf plan_42_5 9 = [] from rfl]
      go_simp
      first | exact ⟨rfl, pcL (fun _ => 0) (fun _ => 0), rfl, rfl⟩ | exact ⟨trivial, rfl, pcL (fun _ => 0) (fun _ => 0), rfl, rfl⟩ | exact ⟨rfl, (bcells fun _ => 0).toList, by rw [Array.toArray_toList], by rw [Array.toArray_toList]⟩
    · intro L v w hL hD hC hI
      refine ⟨fun _ => ?_, fun hw => by cases hw⟩
      have h7 : (v 7) = .agg (pc (fb ((Pt.mul (V (k)) (B7)).add (O2)).x) (fb ((Pt.mul (V (k)) (B7)).add (O2)).y)) := hI.inv.val 7 (hD 7 (by decide))
      refine InvN.store_step hok hI hL ⟨some 9, 0, 43, some 10, fun cs => (Value.agg (List.toArray cs)) = .agg (pc (fun _ => 0) (fun _ => 0)), fun cs => (Value.agg (List.toArray cs)) = .agg (pc (fb ((Pt.mul (V (k)) (B7)).add (O2)).x) (fb ((Pt.mul (V (k)) (B7)).add (O2)).y))⟩ (by simp) rfl (by simp) (by intro k hk; cases hk; exact hD 9 (by decide)) rfl rfl (fun cs h => by rw [pcL_of h]; exact noI_pc _ _) ?_
      intro n cs hb hR hold
      change v 9 = .pointer (some ⟨n, 0, none⟩) at hb
      rw [show readsOf plan_42_5 10 = [(28, 7), (6, 9)] from rfl]
      exact st_P hR (by rw [pcL_of hold]; exact pcL_len _ _) _ _ rfl hb h7 fun w' cs' hr he hk => ⟨trivial, hk, cs', hr, he⟩
    · intro L v w hL hD hC hI
      refine ⟨fun _ => ?_, fun hw => by cases hw⟩
      have h8 : (v 8) = .nilIface := hI.inv.val 8 (hD 8 (by decide))
      refine hI.val0 hL (by simp) rfl rfl ?_
      rw [show readsOf plan_42_5 11 = [(29, 8)] from rfl]
      exact ⟨h8, Ext.refl _⟩
    intro L v3 W3 hL hI
    obtain ⟨s, cs, hb_s, lo_s, hr, hn, ho⟩ := hI.inv.row_made ⟨some 9, 0, 43, some 10, fun cs => (Value.agg (List.toArray cs)) = .agg (pc (fun _ => 0) (fun _ => 0)), fun cs => (Value.agg (List.toArray cs)) = .agg (pc (fb ((Pt.mul (V (k)) (B7)).add (O2)).x) (fb ((Pt.mul (V (k)) (B7)).add (O2)).y))⟩ (by simp) 9 rfl (hL 9 (by decide))
    have R_s : RV W3 s 43 (fun u => u = .agg (pc (fb ((Pt.mul (V (k)) (B7)).add (O2)).x) (fb ((Pt.mul (V (k)) (B7)).add (O2)).y))) := ⟨cs, hr, hn 10 rfl (hL 10 (by decide))⟩
    clear hr hn ho
    replace R_bk := R_bk.keep hI.inv.keep (by simp)
    replace R_r := R_r.keep hI.inv.keep (by simp)
    replace R_p := R_p.keep hI.inv.keep (by simp)
    have ne_bk_s : bk ≠ s := Nat.ne_of_lt (Nat.lt_of_lt_of_le lt_bk lo_s)
    have ne_r_s : r ≠ s := Nat.ne_of_lt (Nat.lt_of_lt_of_le lt_r lo_s)
    have ne_p_s : p ≠ s := Nat.ne_of_lt (Nat.lt_of_lt_of_le lt_p lo_s)
    replace lt_bk := Nat.lt_of_lt_of_le lt_bk hI.inv.keep.size
    replace lt_r := Nat.lt_of_lt_of_le lt_r hI.inv.keep.size
    replace lt_p := Nat.lt_of_lt_of_le lt_p hI.inv.keep.size
    have hx' : Ext w W3 := hx.trans hI.inv.keep.to_ext
    have lt_s : s < W3.heap.size := R_s.lt
    have bs_s : w.heap.size ≤ s := Nat.le_trans hx.size lo_s
    have hs_7_5 : (v3 11) = .nilIface := hI.inv.val 11 (hL 11 (by decide))
    clear hx hI hL hok L
    have hx := hx'
    clear hx'
    simp only [putP, Act.put, List.setIfInBounds_toArray, List.set_cons_zero, List.set_cons_succ, hb_s, hs_7_5]
    go_upto_region 6 with fail
    have hok : TrsOk [r] W3.heap.size ([⟨none, r, 43, some 3, fun cs => (Value.agg (List.toArray cs)) = .agg (pc (fun _ => 0) (fun _ => 0)), fun cs => (Value.agg (List.toArray cs)) = .agg (pc (fb ((Pt.mul (V (k)) (B7)).add (O2)).x) (fb ((Pt.mul (V (k)) (B7)).add (O2)).y))⟩] : List Trk) := ⟨by simp [R_r.lt], by simp, by simp, by simp⟩
    have noi_r : NoI W3 r := R_r.noP
    refine wp_region_plan (InvN [r] (fun j u => match j with | 0 => u = .agg (pc (fb ((Pt.mul (V (k)) (B7)).add (O2)).x) (fb ((Pt.mul (V (k)) (B7)).add (O2)).y)) | 1 => u = .nilIface | 2 => u = .bool (true) | 4 => u = .bool (true) | _ => True) (fun _ => none) (fun _ => none) [⟨none, r, 43, some 3, fun cs => (Value.agg (List.toArray cs)) = .agg (pc (fun _ => 0) (fun _ => 0)), fun cs => (Value.agg (List.toArray cs)) = .agg (pc (fb ((Pt.mul (V (k)) (B7)).add (O2)).x) (fb ((Pt.mul (V (k)) (B7)).add (O2)).y))⟩] W3) plan_42_6 [(30, 0), (31, 1), (32, 2), (3, 4)] 34 (by kernel_rfl) rfl (by kernel_rfl) (InvN.of (Inv.start hok (by
        simp only [List.forall_mem_cons, List.not_mem_nil, false_implies, implies_true, and_true]
        exact fun _ => R_r))) ⟨?_, ?_, ?_, ?_, ?_, trivial⟩ ?_
    · intro L v w hL hD hC hI
      refine ⟨fun _ => ?_, fun hw => by cases hw⟩
      refine hI.val0 hL (by simp) rfl rfl ?_
      rw [show readsOf plan_42_6 0 = [] from rfl]
      exact ld_P (R_s.keep hI.inv.keep (by simp [ne_r_s, Ne.symm ne_r_s])) _ rfl rfl fun u hu => ⟨hu, Ext.refl _⟩
    · intro L v w hL hD hC hI
      refine ⟨fun _ => ?_, fun hw => by cases hw⟩
      refine hI.val0 hL (by simp) rfl rfl ?_
      rw [show readsOf plan_42_6 1 = [] from rfl]
      first | exact ⟨rfl, Ext.refl _⟩ | (go_simp; exact ⟨rfl, Ext.refl _⟩)
    · intro L v w hL hD hC hI
      refine ⟨fun _ => ?_, fun hw => by cases hw⟩
      have h1 : (v 1) = .nilIface := hI.inv.val 1 (hD 1 (by decide))
      refine hI.val0 hL (by simp) rfl rfl ?_
      rw [show readsOf plan_42_6 2 = [(31, 1)] from rfl]
      simp only [putP, Act.put, List.setIfInBounds_toArray, List.set_cons_zero, List.set_cons_succ, h1]
      go_simp
      exact ⟨rfl, Ext.refl _⟩
    · intro L v w hL hD hC hI
      refine ⟨fun _ => ?_, fun hw => by cases hw⟩
      have h0 : (v 0) = .agg (pc (fb ((Pt.mul (V (k)) (B7)).add (O2)).x) (fb ((Pt.mul (V (k)) (B7)).add (O2)).y)) := hI.inv.val 0 (hD 0 (by decide))
      refine InvN.store_step hok hI hL ⟨none, r, 43, some 3, fun cs => (Value.agg (List.toArray cs)) = .agg (pc (fun _ => 0) (fun _ => 0)), fun cs => (Value.agg (List.toArray cs)) = .agg (pc (fb ((Pt.mul (V (k)) (B7)).add (O2)).x) (fb ((Pt.mul (V (k)) (B7)).add (O2)).y))⟩ (by simp) rfl (by simp) (by intro k hk; cases hk) rfl rfl (fun cs h => by rw [pcL_of h]; exact noI_pc _ _) ?_
      intro n cs hb hR hold
      change n = r at hb
      subst hb
      rw [show readsOf plan_42_6 3 = [(30, 0)] from rfl]
      exact st_P hR (by rw [pcL_of hold]; exact pcL_len _ _) _ _ rfl rfl h0 fun w' cs' hr he hk => ⟨trivial, hk, cs', hr, he⟩
    · intro L v w hL hD hC hI
      refine ⟨fun _ => ?_, fun hw => by cases hw⟩
      have h2 : (v 2) = .bool (true) := hI.inv.val 2 (hD 2 (by decide))
      refine hI.val0 hL (by simp) rfl rfl ?_
      rw [show readsOf plan_42_6 4 = [(32, 2)] from rfl]
      exact ⟨h2, Ext.refl _⟩
    intro L v4 W4 hL hI
    have N_r : RV W4 r 43 (fun u => u = .agg (pc (fb ((Pt.mul (V (k)) (B7)).add (O2)).x) (fb ((Pt.mul (V (k)) (B7)).add (O2)).y))) := hI.inv.row_new ⟨none, r, 43, some 3, fun cs => (Value.agg (List.toArray cs)) = .agg (pc (fun _ => 0) (fun _ => 0)), fun cs => (Value.agg (List.toArray cs)) = .agg (pc (fb ((Pt.mul (V (k)) (B7)).add (O2)).x) (fb ((Pt.mul (V (k)) (B7)).add (O2)).y))⟩ (by simp) rfl 3 rfl (hL 3 (by decide))
    replace R_bk := R_bk.keep hI.inv.keep (by simp [ne_bk_r, Ne.symm ne_bk_r])
    replace R_p := R_p.keep hI.inv.keep (by simp [ne_r_p, Ne.symm ne_r_p])
    replace R_s := R_s.keep hI.inv.keep (by simp [ne_r_s, Ne.symm ne_r_s])
    clear noi_r
    clear R_r
    have R_r := N_r
    clear N_r
    replace lt_bk := Nat.lt_of_lt_of_le lt_bk hI.inv.keep.size
    replace lt_r := Nat.lt_of_lt_of_le lt_r hI.inv.keep.size
    replace lt_p := Nat.lt_of_lt_of_le lt_p hI.inv.keep.size
    replace lt_s := Nat.lt_of_lt_of_le lt_s hI.inv.keep.size
    have hx' : Ext w W4 := Ext.keep_ hx hI.inv.keep (by simp only [List.forall_mem_cons, List.not_mem_nil, false_implies, implies_true, and_true]; exact bs_r)
    have hs_31_6 : (v4 1) = .nilIface := hI.inv.val 1 (hL 1 (by decide))
    have hs_3_6 : (v4 4) = .bool (true) := hI.inv.val 4 (hL 4 (by decide))
    clear hx hI hL hok L
    have hx := hx'
    clear hx'
    simp only [putP, Act.put, List.setIfInBounds_toArray, List.set_cons_zero, List.set_cons_succ, hs_31_6, hs_3_6]
    go_wp2
    rw [hS.out]
    refine bodyPost_ret (results_P2 rfl _ R_r rfl) rfl ?_
    refine ⟨?_, hx⟩
    rfl
end Go.Proofs.Ytndohjgfjbopnaa
