/-
  The package sign: a seed's number and mark.
-/
import Derived.Test.YtgeihelkkhjjaaaDoorSgH
set_option linter.unusedSimpArgs false
set_option linter.unusedVariables false
namespace Go.Proofs.YtgeihelkkhjjaaaDoor
open Go.RowKit Go.Cv Go.Cv.Pr Go.Cv.Grp Go.Cv.Hash
theorem sNum_is (H : List UInt8) : ∀ i, i < 32 → updb (updb (lf H 0) 0 ((lf H 0) 0 &&& 248)) 31 ((updb (lf H 0) 0 ((lf H 0) 0 &&& 248)) 31 &&& 63 ||| 64) i = sNum H i := by
  intro i hi
  unfold sNum updb lf
  by_cases h1 : i = 31
  · rw [if_pos h1, if_pos h1]; rfl
  · rw [if_neg h1, if_neg h1]
    by_cases h0 : i = 0
    · rw [if_pos h0, if_pos h0]
    · rw [if_neg h0, if_neg h0, Nat.zero_add]
def plan_13_0 : List Plan := [⟨[], []⟩, ⟨[], []⟩]
def plan_13_1 : List Plan := [⟨[], []⟩, ⟨[0], [(5, 0)]⟩, ⟨[], []⟩, ⟨[0, 1, 2], [(6, 1), (3, 2)]⟩]
def plan_13_2 : List Plan := [⟨[], []⟩, ⟨[0], [(7, 0)]⟩, ⟨[0, 1], [(8, 1)]⟩, ⟨[], []⟩, ⟨[3], [(10, 3)]⟩, ⟨[3, 4], [(11, 4)]⟩, ⟨[0, 1, 2, 3, 4, 5], [(9, 2), (12, 5)]⟩, ⟨[], []⟩, ⟨[0, 1, 2, 3, 4, 5, 6, 7], [(13, 6), (4, 7)]⟩]
def plan_13_3 : List Plan := [⟨[], []⟩, ⟨[0], [(14, 0)]⟩, ⟨[0, 1], [(15, 1)]⟩, ⟨[0, 1, 2], [(16, 2)]⟩, ⟨[], []⟩, ⟨[0, 1, 2, 3, 4], [(18, 4)]⟩, ⟨[0, 1, 2, 3, 4, 5], [(17, 3), (19, 5)]⟩]
def plan_13_4 : List Plan := [⟨[], []⟩, ⟨[0], [(20, 0)]⟩, ⟨[0, 1], [(21, 1)]⟩, ⟨[0, 1, 2], [(22, 2)]⟩, ⟨[0, 1, 2, 3], [(23, 3)]⟩, ⟨[], []⟩, ⟨[0, 1, 2, 3, 4, 5], [(25, 5)]⟩, ⟨[0, 1, 2, 3, 4, 5, 6], [(24, 4), (26, 6)]⟩]
def plan_13_5 : List Plan := [⟨[], []⟩, ⟨[0], [(27, 0)]⟩]
set_option maxRecDepth 20000 in
set_option maxHeartbeats 16000000 in
theorem sof_any (f : Nat → UInt8) (w : World) (hT : Tab64 w) :
    Calls Tryd.prog 13 #[.agg (bcells f)] w fun e w' => e = .returned (.agg (pc (sNum (sHash f)) (lf (sHash f) 32))) ∧ Ext w w' := by
  have hs : ∀ (w' : World) (A : Option Addr), Rd w' A ((blist f).map bv) → Ext w w' → Calls Tryd.prog 23 #[.slice A 32 32] w' fun e w2 => e = .returned (h64 (sHash f)) ∧ Ext w' w2 := fun w' A hr hx => sum512_any A 32 32 (blist f) w' (blist_len f) (Nat.le_refl _) hr (by decide) (hT.ext hx)
  have hl : (sHash f).length = 64 := hash64_len _
  generalize sHash f = H at *
  go_enter Tryd.func13, Tryd.ntmps13
  go_upto_region 0 with fail
  have hx : Ext w w := Ext.refl w
  have hok : TrsOk [] w.heap.size ([(tk (some 0) 0 22 (none) (fun u => u = .agg (bcells (f))) (fun _ => True)), (tk (some 1) 0 37 (none) (sz 64) (fun _ => True))] : List Trk) := ⟨by simp [tk], by simp [tk], by simp [tk], by simp [tk]⟩
  have hE : ∀ p ∈ ([] : List (Nat × (Value → World → Prop))), Lasts [] p.2 := fun p hp => by cases hp
  refine wp_region_text (InvE [] [] [] (fun _ _ => True) [(tk (some 0) 0 22 (none) (fun u => u = .agg (bcells (f))) (fun _ => True)), (tk (some 1) 0 37 (none) (sz 64) (fun _ => True))] w) plan_13_0 [(1, 0), (2, 1)] 28 rfl (by kernel_rfl) (InvE.start0 (Inv.start0 hok (by simp))) ⟨?_, ?_, trivial⟩ ?_
  · exact ee_new 0 hE rfl rfl rfl rfl rfl rfl hok fun L v w D I => give_box (bcells (f)).toList rfl rfl ⟨trivial, rfl, _, rfl, rfl⟩
  · exact ee_new 1 hE rfl rfl rfl rfl rfl rfl hok fun L v w D I => al_S rfl fun c h => ⟨trivial, rfl, c, rfl, sz_mk c h⟩
  intro L v1 W1 hL hIE
  have hI := hIE.inv
  obtain ⟨b, hb_b, lo_b, R_b⟩ := hI.made0 0 rfl (hL 0 (by decide))
  obtain ⟨r, hb_r, lo_r, R_r⟩ := hI.made0 1 rfl (hL 1 (by decide))
  have ne_b_r := hI.two 0 1 rfl rfl rfl rfl rfl (hL 0 (by decide)) (hL 1 (by decide)) hb_b hb_r
  have bs_r := Nat.le_trans hx.size lo_r
  have lt_r := R_r.lt
  have hxr := hI.keep.to_ext
  replace hx := hx.trans hxr
  clear hI hIE hL hE L hok hxr
  simp only [putP, Act.put, List.setIfInBounds_toArray, List.set_cons_zero, List.set_cons_succ, hb_b, hb_r]
  go_upto_region 1 with fail
  have hok : TrsOk [] W1.heap.size ([(tk (some 2) 0 26 (some 3) (sz 64) (fun u => u = h64 (H)))] : List Trk) := ⟨by simp [tk], by simp [tk], by simp [tk], by simp [tk]⟩
  have hE : ∀ p ∈ ([] : List (Nat × (Value → World → Prop))), Lasts [26] p.2 := fun p hp => by cases hp
  refine wp_region_text (InvE [26] [] [] (fun j u => match j with | 0 => u = .slice (some ⟨b, 0, none⟩) 32 32 | 1 => u = h64 H | _ => True) [(tk (some 2) 0 26 (some 3) (sz 64) (fun u => u = h64 (H)))] W1) plan_13_1 [(5, 0), (6, 1), (3, 2)] 28 rfl (by kernel_rfl) (InvE.start0 (Inv.start0 hok (by simp))) ⟨?_, ?_, ?_, ?_, trivial⟩ ?_
  · exact ee_val hE rfl rfl rfl fun L v w D N I => sl32 _ rfl rfl ⟨rfl, Ext.refl _⟩
  · exact ee_val hE rfl rfl rfl fun L v w D N I => gSum _ _ rfl rfl (calls_known (calls_eq_ (hs w _ (rd_B (R_b.keep0 I.inv.keep)) (hx.trans I.inv.keep.to_ext)) (ar1 (I.inv.val 0 (D 0 rfl)))))
  · exact ee_new 0 hE rfl rfl rfl rfl rfl rfl hok fun L v w D I => al_H rfl fun c h => ⟨trivial, rfl, c, rfl, sz_mk c h⟩
  · exact ee_lay 0 2 hE rfl rfl rfl rfl rfl rfl rfl rfl hok fun L v w D I n cs hb hR ho => st_H hR (sz_len ho) hl _ _ rfl hb (I.inv.val 1 (D 1 rfl)) fun _ c a b k => ⟨trivial, k, c, a, b⟩
  intro L v2 W2 hL hIE
  have hI := hIE.inv
  obtain ⟨h, hb_h, lo_h, R_h⟩ := hI.made 0 rfl (hL 2 (by decide)) (hL 3 (by decide))
  replace R_b := R_b.keep0 hI.keep
  replace R_r := R_r.keep0 hI.keep
  have ne_r_h := Nat.ne_of_lt (Nat.lt_of_lt_of_le lt_r lo_h)
  replace lt_r := Nat.lt_of_lt_of_le lt_r hI.keep.size
  have hxr := hI.keep.to_ext
  replace hx := hx.trans hxr
  clear hI hIE hL hE L hok hxr
  simp only [putP, Act.put, List.setIfInBounds_toArray, List.set_cons_zero, List.set_cons_succ, hb_h]
  go_upto_region 2 with fail
  have hok : TrsOk [] W2.heap.size ([(tk (some 7) 0 37 (some 8) (sz 64) (fun u => u = .agg (pc (lf H 0) (lf H 32))))] : List Trk) := ⟨by simp [tk], by simp [tk], by simp [tk], by simp [tk]⟩
  have hE : ∀ p ∈ ([] : List (Nat × (Value → World → Prop))), Lasts [37] p.2 := fun p hp => by cases hp
  refine wp_region_plan (InvE [37] [] [] (fun j u => match j with | 0 => u = .slice (some ⟨h, 0, none⟩) 32 64 | 1 => u = .pointer (some ⟨h, 0, none⟩) | 2 => u = .agg (bcells (lf H 0)) | 3 => u = .slice (some ⟨h, 32, none⟩) 32 32 | 4 => u = .pointer (some ⟨h, 32, none⟩) | 5 => u = .agg (bcells (lf H 32)) | 6 => u = .agg (pc (lf H 0) (lf H 32)) | _ => True) [(tk (some 7) 0 37 (some 8) (sz 64) (fun u => u = .agg (pc (lf H 0) (lf H 32))))] W2) plan_13_2 [(7, 0), (8, 1), (9, 2), (10, 3), (11, 4), (12, 5), (13, 6), (4, 7)] 28 (by kernel_rfl) rfl (by kernel_rfl) (InvE.start (Inv.start hok (by simp))) ⟨?_, ?_, ?_, ?_, ?_, ?_, ?_, ?_, ?_, trivial⟩ ?_
  · exact ee_val hE rfl rfl rfl fun L v w D N I => sl64hi _ rfl rfl rfl ⟨rfl, Ext.refl _⟩
  · exact ee_val hE rfl rfl rfl fun L v w D N I => give_arr _ _ rfl _ _ _ 32 _ (I.inv.val 0 (D 0 rfl)) u22 (by decide) ⟨rfl, Ext.refl _⟩
  · exact ee_val hE rfl rfl rfl fun L v w D N I => ld_Hk 0 (R_h.keep0 I.inv.keep) hl (by decide) _ rfl (I.inv.val 1 (D 1 rfl)) ldK
  · exact ee_val hE rfl rfl rfl fun L v w D N I => sl64lo _ rfl rfl rfl ⟨rfl, Ext.refl _⟩
  · exact ee_val hE rfl rfl rfl fun L v w D N I => give_arr _ _ rfl _ _ _ 32 _ (I.inv.val 3 (D 3 rfl)) u22 (by decide) ⟨rfl, Ext.refl _⟩
  · exact ee_val hE rfl rfl rfl fun L v w D N I => ld_Hk 32 (R_h.keep0 I.inv.keep) hl (by decide) _ rfl (I.inv.val 4 (D 4 rfl)) ldK
  · exact ee_val hE rfl rfl rfl fun L v w D N I => bd_S _ _ rfl (I.inv.val 2 (D 2 rfl)) (I.inv.val 5 (D 5 rfl)) ldK
  · exact ee_new 0 hE rfl rfl rfl rfl rfl rfl hok fun L v w D I => al_S rfl fun c h => ⟨trivial, rfl, c, rfl, sz_mk c h⟩
  · exact ee_lay 0 7 hE rfl rfl rfl rfl rfl rfl rfl rfl hok fun L v w D I n cs hb hR ho => st_S hR (sz_len ho) _ _ rfl hb (I.inv.val 6 (D 6 rfl)) fun _ c a b k => ⟨trivial, k, c, a, b⟩
  intro L v3 W3 hL hIE
  have hI := hIE.inv
  obtain ⟨s, hb_s, lo_s, R_s⟩ := hI.made 0 rfl (hL 7 (by decide)) (hL 8 (by decide))
  have lt_b := R_b.lt
  have lt_h := R_h.lt
  replace R_b := R_b.keep0 hI.keep
  replace R_r := R_r.keep0 hI.keep
  replace R_h := R_h.keep0 hI.keep
  have ne_b_s := Nat.ne_of_lt (Nat.lt_of_lt_of_le lt_b lo_s)
  have ne_r_s := Nat.ne_of_lt (Nat.lt_of_lt_of_le lt_r lo_s)
  have ne_h_s := Nat.ne_of_lt (Nat.lt_of_lt_of_le lt_h lo_s)
  replace lt_r := Nat.lt_of_lt_of_le lt_r hI.keep.size
  have bs_s := Nat.le_trans hx.size lo_s
  have lt_s := R_s.lt
  have hxr := hI.keep.to_ext
  replace hx := hx.trans hxr
  clear hI hIE hL hE L hok hxr
  simp only [putP, Act.put, List.setIfInBounds_toArray, List.set_cons_zero, List.set_cons_succ, hb_s]
  go_upto_region 3 with fail
  have hok : TrsOk [s] W3.heap.size ([(tk (none) s 37 (some 6) (fun u => u = .agg (pc (lf H 0) (lf H 32))) (fun u => u = .agg (pc (updb (lf H 0) 0 ((lf H 0) 0 &&& 248)) (lf H 32))))] : List Trk) := ⟨by simp [tk, R_s.lt], by simp [tk], by simp [tk], by simp [tk]⟩
  have hE : ∀ p ∈ ([] : List (Nat × (Value → World → Prop))), Lasts [37] p.2 := fun p hp => by cases hp
  refine wp_region_text (InvE [37] [] [s] (fun j u => match j with | 0 => u = .pointer (some ⟨s, 0, none⟩) | 1 => u = .pointer (some ⟨s, 0 * 1, none⟩) | 2 => u = .int .u8 (n8 ((lf H 0) 0)) | 3 => u = .int .u8 (n8 ((lf H 0) 0 &&& 248)) | 4 => u = .pointer (some ⟨s, 0, none⟩) | 5 => u = .pointer (some ⟨s, 0 * 1, none⟩) | _ => True) [(tk (none) s 37 (some 6) (fun u => u = .agg (pc (lf H 0) (lf H 32))) (fun u => u = .agg (pc (updb (lf H 0) 0 ((lf H 0) 0 &&& 248)) (lf H 32))))] W3) plan_13_3 [(14, 0), (15, 1), (16, 2), (17, 3), (18, 4), (19, 5)] 28 rfl (by kernel_rfl) (InvE.start0 (Inv.start0 hok (by
      simp only [List.forall_mem_cons, List.not_mem_nil, false_implies, implies_true, and_true]
      exact fun _ => R_s))) ⟨?_, ?_, ?_, ?_, ?_, ?_, ?_, trivial⟩ ?_
  · exact ee_val hE rfl rfl rfl fun L v w D N I => give_fa rfl rfl fSE0 ⟨rfl, Ext.refl _⟩
  · exact ee_val hE rfl rfl rfl fun L v w D N I => give_index _ _ _ _ rfl s 0 1 32 .i64 (I.inv.val 0 (D 0 rfl)) rfl u22 (by decide) i5_ ⟨rfl, Ext.refl _⟩
  · exact ee_val hE rfl rfl rfl fun L v w D N I => ld_Sb 0 (by decide) (I.inv.old 0 rfl (N 6 rfl)) _ rfl (I.inv.val 1 (D 1 rfl)) ldK
  · exact ee_val hE rfl rfl rfl fun L v w D N I => g_and _ _ _ _ _ rfl (I.inv.val 2 (D 2 rfl)) rfl ⟨rfl, Ext.refl _⟩
  · exact ee_val hE rfl rfl rfl fun L v w D N I => give_fa rfl rfl fSE0 ⟨rfl, Ext.refl _⟩
  · exact ee_val hE rfl rfl rfl fun L v w D N I => give_index _ _ _ _ rfl s 0 1 32 .i64 (I.inv.val 4 (D 4 rfl)) rfl u22 (by decide) i5_ ⟨rfl, Ext.refl _⟩
  · exact ee_put 0 hE rfl rfl rfl rfl rfl rfl rfl hok fun L v w D I cs hR ho => st_Sb 0 (by decide) _ hR ho _ _ rfl (I.inv.val 5 (D 5 rfl)) (I.inv.val 3 (D 3 rfl)) fun _ c a b k => ⟨trivial, k, c, a, b⟩
  intro L v4 W4 hL hIE
  have hI := hIE.inv
  replace R_b := R_b.keep1 hI.keep ne_b_s
  replace R_r := R_r.keep1 hI.keep ne_r_s
  replace R_h := R_h.keep1 hI.keep ne_h_s
  replace R_s := hI.new 0 rfl (hL 6 (by decide))
  replace lt_r := Nat.lt_of_lt_of_le lt_r hI.keep.size
  replace lt_s := Nat.lt_of_lt_of_le lt_s hI.keep.size
  replace hx := hx.keep1 hI.keep bs_s
  clear hI hIE hL hE L hok
  simp only [putP, Act.put, List.setIfInBounds_toArray, List.set_cons_zero, List.set_cons_succ]
  go_upto_region 4 with fail
  have hok : TrsOk [s] W4.heap.size ([(tk (none) s 37 (some 7) (fun u => u = .agg (pc (updb (lf H 0) 0 ((lf H 0) 0 &&& 248)) (lf H 32))) (fun u => u = .agg (pc (updb (updb (lf H 0) 0 ((lf H 0) 0 &&& 248)) 31 ((updb (lf H 0) 0 ((lf H 0) 0 &&& 248)) 31 &&& 63 ||| 64)) (lf H 32))))] : List Trk) := ⟨by simp [tk, R_s.lt], by simp [tk], by simp [tk], by simp [tk]⟩
  have hE : ∀ p ∈ ([] : List (Nat × (Value → World → Prop))), Lasts [37] p.2 := fun p hp => by cases hp
  refine wp_region_text (InvE [37] [] [s] (fun j u => match j with | 0 => u = .pointer (some ⟨s, 0, none⟩) | 1 => u = .pointer (some ⟨s, 31 * 1, none⟩) | 2 => u = .int .u8 (n8 ((updb (lf H 0) 0 ((lf H 0) 0 &&& 248)) 31)) | 3 => u = .int .u8 (n8 ((updb (lf H 0) 0 ((lf H 0) 0 &&& 248)) 31 &&& 63)) | 4 => u = .int .u8 (n8 ((updb (lf H 0) 0 ((lf H 0) 0 &&& 248)) 31 &&& 63 ||| 64)) | 5 => u = .pointer (some ⟨s, 0, none⟩) | 6 => u = .pointer (some ⟨s, 31 * 1, none⟩) | _ => True) [(tk (none) s 37 (some 7) (fun u => u = .agg (pc (updb (lf H 0) 0 ((lf H 0) 0 &&& 248)) (lf H 32))) (fun u => u = .agg (pc (updb (updb (lf H 0) 0 ((lf H 0) 0 &&& 248)) 31 ((updb (lf H 0) 0 ((lf H 0) 0 &&& 248)) 31 &&& 63 ||| 64)) (lf H 32))))] W4) plan_13_4 [(20, 0), (21, 1), (22, 2), (23, 3), (24, 4), (25, 5), (26, 6)] 28 rfl (by kernel_rfl) (InvE.start0 (Inv.start0 hok (by
      simp only [List.forall_mem_cons, List.not_mem_nil, false_implies, implies_true, and_true]
      exact fun _ => R_s))) ⟨?_, ?_, ?_, ?_, ?_, ?_, ?_, ?_, trivial⟩ ?_
  · exact ee_val hE rfl rfl rfl fun L v w D N I => give_fa rfl rfl fSE0 ⟨rfl, Ext.refl _⟩
  · exact ee_val hE rfl rfl rfl fun L v w D N I => give_index _ _ _ _ rfl s 31 1 32 .i64 (I.inv.val 0 (D 0 rfl)) rfl u22 (by decide) i5_ ⟨rfl, Ext.refl _⟩
  · exact ee_val hE rfl rfl rfl fun L v w D N I => ld_Sb 31 (by decide) (I.inv.old 0 rfl (N 7 rfl)) _ rfl (I.inv.val 1 (D 1 rfl)) ldK
  · exact ee_val hE rfl rfl rfl fun L v w D N I => g_and _ _ _ _ _ rfl (I.inv.val 2 (D 2 rfl)) rfl ⟨rfl, Ext.refl _⟩
  · exact ee_val hE rfl rfl rfl fun L v w D N I => g_or _ _ _ _ _ rfl (I.inv.val 3 (D 3 rfl)) rfl ⟨rfl, Ext.refl _⟩
  · exact ee_val hE rfl rfl rfl fun L v w D N I => give_fa rfl rfl fSE0 ⟨rfl, Ext.refl _⟩
  · exact ee_val hE rfl rfl rfl fun L v w D N I => give_index _ _ _ _ rfl s 31 1 32 .i64 (I.inv.val 5 (D 5 rfl)) rfl u22 (by decide) i5_ ⟨rfl, Ext.refl _⟩
  · exact ee_put 0 hE rfl rfl rfl rfl rfl rfl rfl hok fun L v w D I cs hR ho => st_Sb 31 (by decide) _ hR ho _ _ rfl (I.inv.val 6 (D 6 rfl)) (I.inv.val 4 (D 4 rfl)) fun _ c a b k => ⟨trivial, k, c, a, b⟩
  intro L v5 W5 hL hIE
  have hI := hIE.inv
  replace R_b := R_b.keep1 hI.keep ne_b_s
  replace R_r := R_r.keep1 hI.keep ne_r_s
  replace R_h := R_h.keep1 hI.keep ne_h_s
  replace R_s := hI.new 0 rfl (hL 7 (by decide))
  replace lt_r := Nat.lt_of_lt_of_le lt_r hI.keep.size
  replace lt_s := Nat.lt_of_lt_of_le lt_s hI.keep.size
  replace hx := hx.keep1 hI.keep bs_s
  clear hI hIE hL hE L hok
  simp only [putP, Act.put, List.setIfInBounds_toArray, List.set_cons_zero, List.set_cons_succ]
  go_upto_region 5 with fail
  have hok : TrsOk [r] W5.heap.size ([(tk (none) r 37 (some 1) (sz 64) (fun u => u = .agg (pc (updb (updb (lf H 0) 0 ((lf H 0) 0 &&& 248)) 31 ((updb (lf H 0) 0 ((lf H 0) 0 &&& 248)) 31 &&& 63 ||| 64)) (lf H 32))))] : List Trk) := ⟨by simp [tk, R_r.lt], by simp [tk], by simp [tk], by simp [tk]⟩
  have hE : ∀ p ∈ ([] : List (Nat × (Value → World → Prop))), Lasts [37] p.2 := fun p hp => by cases hp
  refine wp_region_text (InvE [37] [] [r] (fun j u => match j with | 0 => u = .agg (pc (updb (updb (lf H 0) 0 ((lf H 0) 0 &&& 248)) 31 ((updb (lf H 0) 0 ((lf H 0) 0 &&& 248)) 31 &&& 63 ||| 64)) (lf H 32)) | _ => True) [(tk (none) r 37 (some 1) (sz 64) (fun u => u = .agg (pc (updb (updb (lf H 0) 0 ((lf H 0) 0 &&& 248)) 31 ((updb (lf H 0) 0 ((lf H 0) 0 &&& 248)) 31 &&& 63 ||| 64)) (lf H 32))))] W5) plan_13_5 [(27, 0)] 28 rfl (by kernel_rfl) (InvE.start0 (Inv.start0 hok (by
      simp only [List.forall_mem_cons, List.not_mem_nil, false_implies, implies_true, and_true]
      exact fun _ => R_r))) ⟨?_, ?_, trivial⟩ ?_
  · exact ee_val hE rfl rfl rfl fun L v w D N I => ld_S (R_s.keep1 I.inv.keep (Ne.symm ne_r_s)) _ rfl rfl ldK
  · exact ee_put 0 hE rfl rfl rfl rfl rfl rfl rfl hok fun L v w D I cs hR ho => st_S hR (sz_len ho) _ _ rfl rfl (I.inv.val 0 (D 0 rfl)) fun _ c a b k => ⟨trivial, k, c, a, b⟩
  intro L v6 W6 hL hIE
  have hI := hIE.inv
  replace R_b := R_b.keep1 hI.keep ne_b_r
  replace R_h := R_h.keep1 hI.keep (Ne.symm ne_r_h)
  replace R_s := R_s.keep1 hI.keep (Ne.symm ne_r_s)
  replace R_r := hI.new 0 rfl (hL 1 (by decide))
  replace lt_r := Nat.lt_of_lt_of_le lt_r hI.keep.size
  replace lt_s := Nat.lt_of_lt_of_le lt_s hI.keep.size
  replace hx := hx.keep1 hI.keep bs_r
  clear hI hIE hL hE L hok
  simp only [putP, Act.put, List.setIfInBounds_toArray, List.set_cons_zero, List.set_cons_succ]
  go_wp2
  refine bodyPost_ret (results_S rfl _ R_r rfl) rfl ⟨?_, hx⟩
  exact congrArg (fun z => Ending.returned (.agg z)) (pc_congr (sNum_is H))
end Go.Proofs.YtgeihelkkhjjaaaDoor
