/-
  The published example, and what SignHolds computes.
-/
import Derived.Test.YtgeihelkkhjjaaaDoorSgH
import Derived.Test.YtgeihelkkhjjaaaDoorSgM
import Derived.Test.YtgeihelkkhjjaaaDoorRC
import Derived.StillTailTactics
set_option linter.unusedSimpArgs false
set_option linter.unusedVariables false
namespace Go.Proofs.YtgeihelkkhjjaaaDoor
open Go.RowKit Go.Cv Go.Cv.Pr Go.Cv.Grp Go.Cv.Hash
theorem ex_final : sKey (sNum (sHash exSeed)) 0 = 215 ∧ sKey (sNum (sHash exSeed)) 31 = 26 ∧ (sSig (sNum (sHash exSeed)) (lf (sHash exSeed) 32) []).getD 0 0 = 229 ∧ (sSig (sNum (sHash exSeed)) (lf (sHash exSeed) 32) []).getD 63 0 = 11 ∧ sVer (blist (sKey (sNum (sHash exSeed)))) [1] (sSig (sNum (sHash exSeed)) (lf (sHash exSeed) 32) []) = false := by
  rw [exH, exSig, exK]
  have h0 := lf_blist (sKey (sNum exHl)) 0 (by decide)
  have h1 := lf_blist (sKey (sNum exHl)) 31 (by decide)
  rw [exK] at h0 h1
  exact ⟨h0.symm.trans ex_bytes.1, h1.symm.trans ex_bytes.2.1, ex_bytes.2.2.1, ex_bytes.2.2.2, exNot⟩
theorem of_sig {W : World} {s : Nat} {SG : List UInt8} (h : RV W s 26 (fun u => u = h64 SG)) (hl : SG.length = 64) :
    Calls Tryd.prog 10 #[.slice (some ⟨s, 32, none⟩) 32 32] W fun e w' => ∃ v, e = .returned v ∧ Num w' v (V (lf SG 32)) 11 ∧ Ext W w' := by
  refine (of_any (some ⟨s, 32, none⟩) 32 32 (SG.drop 32) W (by rw [List.length_drop, hl]) (rd_Hk 32 h) (by decide)).mono ?_
  rintro e w' ⟨v, rfl, hv, hx⟩
  have e1 : bsum (Dig.lb (SG.drop 32)) 32 = V (lf SG 32) := bsum_congr 32 fun j hj => by
    unfold Dig.lb lf
    simp [List.getD_eq_getElem?_getD, List.getElem?_drop]
  rw [e1] at hv
  exact ⟨v, rfl, hv.short (Nat.lt_of_lt_of_le (V_lt _) (by decide)), hx⟩
theorem own_b {w : World} {b c : Nat} {A : Option Addr} {SG : List UInt8} (h : w.ownsRow b 5 1 (.slice A (0 + 64) c) (0 + 64) ((([] : List UInt8) ++ SG).map bv)) : (w.alloc (.cells #[.int .u8 0] 5)).ownsRow b 5 1 (.slice A 64 c) 64 (SG.map bv) := own_ext h (ext_alloc _ _)
def plan_4_0 : List Plan := [⟨[], []⟩]
def plan_4_1 : List Plan := [⟨[], []⟩, ⟨[0], [(5, 0)]⟩, ⟨[], []⟩, ⟨[0, 1, 2], [(6, 1), (1, 2)]⟩]
def plan_4_2 : List Plan := [⟨[], []⟩, ⟨[0], [(7, 0)]⟩, ⟨[], []⟩, ⟨[0, 1, 2], [(8, 1), (2, 2)]⟩]
def plan_4_3 : List Plan := [⟨[], []⟩, ⟨[], []⟩, ⟨[0, 1], [(9, 0), (10, 1)]⟩, ⟨[0, 1, 2], [(11, 2)]⟩]
def plan_4_4 : List Plan := [⟨[], []⟩, ⟨[], []⟩, ⟨[], []⟩, ⟨[0, 1, 2], [(12, 0), (13, 1), (14, 2)]⟩, ⟨[0, 1, 2, 3], [(15, 3)]⟩]
def plan_4_5 : List Plan := [⟨[], []⟩, ⟨[0], [(16, 0)]⟩, ⟨[0, 1], [(17, 1)]⟩, ⟨[0, 1, 2], [(18, 2)]⟩, ⟨[0, 1, 2, 3], [(19, 3)]⟩, ⟨[0, 1, 2, 3, 4], [(19, 3), (20, 4)]⟩, ⟨[0, 1, 2, 3, 4, 5], [(19, 3), (21, 5)]⟩, ⟨[0, 1, 2, 3, 4, 5, 6], [(19, 3), (22, 6)]⟩, ⟨[0, 1, 2, 3, 4, 5, 6, 7], [(23, 7)]⟩, ⟨[0, 1, 2, 3, 4, 5, 6, 7, 8], [(24, 8)]⟩, ⟨[0, 1, 2, 3, 4, 5, 6, 7, 8, 9], [(24, 8), (25, 9)]⟩, ⟨[0, 1, 2, 3, 4, 5, 6, 7, 8, 9, 10], [(24, 8), (26, 10)]⟩, ⟨[0, 1, 2, 3, 4, 5, 6, 7, 8, 9, 10, 11], [(24, 8), (27, 11)]⟩, ⟨[0, 1, 2, 3, 4, 5, 6, 7, 8, 9, 10, 11, 12], [(28, 12)]⟩, ⟨[0, 1, 2, 3, 4, 5, 6, 7, 8, 9, 10, 11, 12, 13], [(29, 13)]⟩, ⟨[0, 1, 2, 3, 4, 5, 6, 7, 8, 9, 10, 11, 12, 13, 14], [(29, 13), (30, 14)]⟩, ⟨[0, 1, 2, 3, 4, 5, 6, 7, 8, 9, 10, 11, 12, 13, 14, 15], [(29, 13), (31, 15)]⟩, ⟨[0, 1, 2, 3, 4, 5, 6, 7, 8, 9, 10, 11, 12, 13, 14, 15, 16], [(29, 13), (32, 16)]⟩, ⟨[0, 1, 2, 3, 4, 5, 6, 7, 8, 9, 10, 11, 12, 13, 14, 15, 16, 17], [(33, 17)]⟩, ⟨[0, 1, 2, 3, 4, 5, 6, 7, 8, 9, 10, 11, 12, 13, 14, 15, 16, 17, 18], [(34, 18)]⟩, ⟨[0, 1, 2, 3, 4, 5, 6, 7, 8, 9, 10, 11, 12, 13, 14, 15, 16, 17, 18, 19], [(34, 18), (35, 19)]⟩, ⟨[0, 1, 2, 3, 4, 5, 6, 7, 8, 9, 10, 11, 12, 13, 14, 15, 16, 17, 18, 19, 20], [(36, 20)]⟩, ⟨[0, 1, 2, 3, 4, 5, 6, 7, 8, 9, 10, 11, 12, 13, 14, 15, 16, 17, 18, 19, 20, 21], [(37, 21)]⟩, ⟨[0, 1, 2, 3, 4, 5, 6, 7, 8, 9, 10, 11, 12, 13, 14, 15, 16, 17, 18, 19, 20, 21, 22], [(37, 21), (38, 22)]⟩, ⟨[0, 1, 2, 3, 4, 5, 6, 7, 8, 9, 10, 11, 12, 13, 14, 15, 16, 17, 18, 19, 20, 21, 22, 23], [(37, 21), (39, 23)]⟩, ⟨[0, 1, 2, 3, 4, 5, 6, 7, 8, 9, 10, 11, 12, 13, 14, 15, 16, 17, 18, 19, 20, 21, 22, 23, 24], [(40, 24)]⟩]
set_option maxRecDepth 20000 in
set_option maxHeartbeats 16000000 in
theorem shown8_any (w : World) (hT : Tab64 w) :
    Calls Tryd.prog 4 #[] w fun e w' => e = .returned (.bool true) ∧ Ext w w' := by
  obtain ⟨f1, f2, f3, f4, f5⟩ := ex_final
  have hpub : ∀ w', Ext w w' → Calls Tryd.prog 5 #[.agg (bcells exSeed)] w' fun e w2 => e = .returned (.agg (bcells (sKey (sNum (sHash exSeed))))) ∧ Ext w' w2 := fun w' hx => spub_any exSeed w' (hT.ext hx)
  have hsig : ∀ w', Ext w w' → Calls Tryd.prog 6 #[.agg (bcells exSeed), .slice none 0 0] w' fun e w2 => e = .returned (h64 (sSig (sNum (sHash exSeed)) (lf (sHash exSeed) 32) [])) ∧ Ext w' w2 := fun w' hx => ssig_any exSeed none 0 0 [] w' rfl (Nat.le_refl _) Rd.nil_ (by decide) (hT.ext hx)
  have f6 : sVer (blist (sKey (sNum (sHash exSeed)))) [] (sSig (sNum (sHash exSeed)) (lf (sHash exSeed) 32) []) = true := sVer_sig _ _ _
  have hl64 : (sSig (sNum (sHash exSeed)) (lf (sHash exSeed) 32) []).length = 64 := sSig_len _ _ _
  generalize sSig (sNum (sHash exSeed)) (lf (sHash exSeed) 32) [] = SG at *
  generalize sKey (sNum (sHash exSeed)) = KF at *
  have hv1 : ∀ w' A A', Rd w' A ((blist KF).map bv) → Rd w' A' (SG.map bv) → Ext w w' → Calls Tryd.prog 7 #[.slice A 32 32, .slice none 0 0, .slice A' 64 64] w' fun e w2 => e = .returned (.bool true) ∧ Ext w' w2 := fun w' A A' h1 h2 hx => f6 ▸ sver_any A 32 32 (blist KF) none 0 0 [] A' 64 64 SG w' (blist_len _) (Nat.le_refl _) h1 rfl (Nat.le_refl _) Rd.nil_ hl64 (Nat.le_refl _) h2 (by decide) (hT.ext hx)
  have hv2 : ∀ w' A B A', Rd w' A ((blist KF).map bv) → Rd w' B [.int .u8 1] → Rd w' A' (SG.map bv) → Ext w w' → Calls Tryd.prog 7 #[.slice A 32 32, .slice B 1 1, .slice A' 64 64] w' fun e w2 => e = .returned (.bool false) ∧ Ext w' w2 := fun w' A B A' h1 h3 h2 hx => f5 ▸ sver_any A 32 32 (blist KF) B 1 1 [1] A' 64 64 SG w' (blist_len _) (Nat.le_refl _) h1 rfl (Nat.le_refl _) h3 hl64 (Nat.le_refl _) h2 (by decide) (hT.ext hx)
  have e1 : n8 (KF 0) = 215 := by rw [f1]; rfl
  have e2 : n8 (KF 31) = 26 := by rw [f2]; rfl
  have e3 : n8 (SG.getD 0 0) = 229 := by rw [f3]; rfl
  have e4 : n8 (SG.getD 63 0) = 11 := by rw [f4]; rfl
  clear f1 f2 f3 f4 f5 f6
  go_enter Tryd.func4, Tryd.ntmps4
  go_upto_region 0 with fail
  have hx : Ext w w := Ext.refl w
  have hE : ∀ p ∈ ([] : List (Nat × (Value → World → Prop))), Lasts [] p.2 := fun p hp => by cases hp
  refine wp_region_text (InvE [] [] [] (fun j u => match j with | 0 => u = .bool false | _ => True) [] w) plan_4_0 [(0, 0)] 41 rfl (by kernel_rfl) (InvE.start0 (Inv.start0 ⟨by simp, by simp, by simp, by simp⟩ (by simp))) ⟨?_, trivial⟩ ?_
  · exact ee_val hE rfl rfl rfl fun L v w D N I => ⟨rfl, Ext.refl _⟩
  intro L v1 W1 hL hIE
  have hI := hIE.inv
  have hxr := hI.keep.to_ext
  replace hx := hx.trans hxr
  clear hI hIE hL hE L hxr
  simp only [putP, Act.put, List.setIfInBounds_toArray, List.set_cons_zero, List.set_cons_succ]
  go_upto_region 1 with fail
  have hok : TrsOk [] W1.heap.size ([(tk (some 2) 0 22 (some 3) (sz 32) (fun u => u = .agg (bcells (KF))))] : List Trk) := ⟨by simp [tk], by simp [tk], by simp [tk], by simp [tk]⟩
  have hE : ∀ p ∈ ([] : List (Nat × (Value → World → Prop))), Lasts [22] p.2 := fun p hp => by cases hp
  refine wp_region_text (InvE [22] [] [] (fun j u => match j with | 0 => u = .agg (bcells (exSeed)) | 1 => u = .agg (bcells (KF)) | _ => True) [(tk (some 2) 0 22 (some 3) (sz 32) (fun u => u = .agg (bcells (KF))))] W1) plan_4_1 [(5, 0), (6, 1), (1, 2)] 41 rfl (by kernel_rfl) (InvE.start0 (Inv.start0 hok (by simp))) ⟨?_, ?_, ?_, ?_, trivial⟩ ?_
  · exact ee_val hE rfl rfl rfl fun L v w D N I => gSeed _ _ rfl rfl (calls_known (seed_any w))
  · exact ee_val hE rfl rfl rfl fun L v w D N I => gPub _ _ rfl rfl (calls_known (calls_eq_ (hpub w (hx.trans I.inv.keep.to_ext)) (ar1 (I.inv.val 0 (D 0 rfl)))))
  · exact ee_new 0 hE rfl rfl rfl rfl rfl rfl hok fun L v w D I => al_B rfl fun c h => ⟨trivial, rfl, c, rfl, sz_mk c h⟩
  · exact ee_lay 0 2 hE rfl rfl rfl rfl rfl rfl rfl rfl hok fun L v w D I n cs hb hR ho => st_B hR (sz_len ho) _ _ rfl hb (I.inv.val 1 (D 1 rfl)) fun _ c a b k => ⟨trivial, k, c, a, b⟩
  intro L v2 W2 hL hIE
  have hI := hIE.inv
  obtain ⟨k, hb_k, lo_k, R_k⟩ := hI.made 0 rfl (hL 2 (by decide)) (hL 3 (by decide))
  have hxr := hI.keep.to_ext
  replace hx := hx.trans hxr
  clear hI hIE hL hE L hok hxr
  simp only [putP, Act.put, List.setIfInBounds_toArray, List.set_cons_zero, List.set_cons_succ, hb_k]
  go_upto_region 2 with fail
  have hok : TrsOk [] W2.heap.size ([(tk (some 2) 0 26 (some 3) (sz 64) (fun u => u = h64 (SG)))] : List Trk) := ⟨by simp [tk], by simp [tk], by simp [tk], by simp [tk]⟩
  have hE : ∀ p ∈ ([] : List (Nat × (Value → World → Prop))), Lasts [26] p.2 := fun p hp => by cases hp
  refine wp_region_text (InvE [26] [] [] (fun j u => match j with | 0 => u = .agg (bcells (exSeed)) | 1 => u = h64 SG | _ => True) [(tk (some 2) 0 26 (some 3) (sz 64) (fun u => u = h64 (SG)))] W2) plan_4_2 [(7, 0), (8, 1), (2, 2)] 41 rfl (by kernel_rfl) (InvE.start0 (Inv.start0 hok (by simp))) ⟨?_, ?_, ?_, ?_, trivial⟩ ?_
  · exact ee_val hE rfl rfl rfl fun L v w D N I => gSeed _ _ rfl rfl (calls_known (seed_any w))
  · exact ee_val hE rfl rfl rfl fun L v w D N I => gSig _ _ rfl rfl (calls_known (calls_eq_ (hsig w (hx.trans I.inv.keep.to_ext)) (ar2 (I.inv.val 0 (D 0 rfl)) rfl)))
  · exact ee_new 0 hE rfl rfl rfl rfl rfl rfl hok fun L v w D I => al_H rfl fun c h => ⟨trivial, rfl, c, rfl, sz_mk c h⟩
  · exact ee_lay 0 2 hE rfl rfl rfl rfl rfl rfl rfl rfl hok fun L v w D I n cs hb hR ho => st_H hR (sz_len ho) hl64 _ _ rfl hb (I.inv.val 1 (D 1 rfl)) fun _ c a b k => ⟨trivial, k, c, a, b⟩
  intro L v3 W3 hL hIE
  have hI := hIE.inv
  obtain ⟨s, hb_s, lo_s, R_s⟩ := hI.made 0 rfl (hL 2 (by decide)) (hL 3 (by decide))
  replace R_k := R_k.keep0 hI.keep
  have hxr := hI.keep.to_ext
  replace hx := hx.trans hxr
  clear hI hIE hL hE L hok hxr
  simp only [putP, Act.put, List.setIfInBounds_toArray, List.set_cons_zero, List.set_cons_succ, hb_s]
  go_upto_region 3 with fail
  have hE : ∀ p ∈ ([] : List (Nat × (Value → World → Prop))), Lasts [] p.2 := fun p hp => by cases hp
  refine wp_region_plan (InvE [] [] [] (fun j u => match j with | 0 => u = .slice (some ⟨k, 0, none⟩) 32 32 | 1 => u = .slice (some ⟨s, 0, none⟩) 64 64 | 2 => u = .bool true | 3 => u = .bool true | _ => True) [] W3) plan_4_3 [(9, 0), (10, 1), (11, 2), (3, 3)] 41 (by kernel_rfl) rfl (by kernel_rfl) (InvE.start (Inv.start ⟨by simp, by simp, by simp, by simp⟩ (by simp))) ⟨?_, ?_, ?_, ?_, trivial⟩ ?_
  · exact ee_val hE rfl rfl rfl fun L v w D N I => sl32 _ rfl rfl ⟨rfl, Ext.refl _⟩
  · exact ee_val hE rfl rfl rfl fun L v w D N I => sl64 _ rfl rfl ⟨rfl, Ext.refl _⟩
  · exact ee_val hE rfl rfl rfl fun L v w D N I => gVer _ _ rfl rfl (calls_known (calls_eq_ (hv1 w _ _ (rd_B (R_k.keep0 I.inv.keep)) (rd_H (R_s.keep0 I.inv.keep)) (hx.trans I.inv.keep.to_ext)) (ar3 (I.inv.val 0 (D 0 rfl)) rfl (I.inv.val 1 (D 1 rfl)))))
  · exact ee_val hE rfl rfl rfl fun L v w D N I => ⟨(I.inv.val 2 (D 2 rfl)), Ext.refl _⟩
  intro L v4 W4 hL hIE
  have hI := hIE.inv
  replace R_k := R_k.keep0 hI.keep
  replace R_s := R_s.keep0 hI.keep
  have hxr := hI.keep.to_ext
  replace hx := hx.trans hxr
  have hs_3_3 : (v4 3) = .bool true := hI.val 3 (hL 3 (by decide))
  clear hI hIE hL hE L hxr
  simp only [putP, Act.put, List.setIfInBounds_toArray, List.set_cons_zero, List.set_cons_succ, hs_3_3]
  go_upto_region 4 with fail
  have hE : ∀ p ∈ ([(1, slE 5 (fun g cs u => u = .slice (some ⟨g, 0, none⟩) 1 1 ∧ cs = [.int .u8 1]))] : List (Nat × (Value → World → Prop))), Lasts [] p.2 := by
    simp only [List.forall_mem_cons, List.not_mem_nil, false_implies, implies_true, and_true]
    exact lasts_slE rfl
  refine wp_region_plan (InvE [] [(1, slE 5 (fun g cs u => u = .slice (some ⟨g, 0, none⟩) 1 1 ∧ cs = [.int .u8 1]))] [] (fun j u => match j with | 0 => u = .slice (some ⟨k, 0, none⟩) 32 32 | 2 => u = .slice (some ⟨s, 0, none⟩) 64 64 | 3 => u = .bool false | 4 => u = .bool false | _ => True) [] W4) plan_4_4 [(12, 0), (13, 1), (14, 2), (15, 3), (4, 4)] 41 (by kernel_rfl) rfl (by kernel_rfl) (InvE.start (Inv.start ⟨by simp, by simp, by simp, by simp⟩ (by simp))) ⟨?_, ?_, ?_, ?_, ?_, trivial⟩ ?_
  · exact ee_val hE rfl rfl rfl fun L v w D N I => sl32 _ rfl rfl ⟨rfl, Ext.refl _⟩
  · exact ee_sl 0 hE rfl rfl rfl rfl (fun _ => trivial) fun L v w D N I => give_bsb rfl rfl ⟨⟨_, _, Row.alloc w [.int .u8 1] _, rfl, rfl⟩, ext_alloc _ _⟩
  · exact ee_val hE rfl rfl rfl fun L v w D N I => sl64 _ rfl rfl ⟨rfl, Ext.refl _⟩
  · exact ee_val hE rfl rfl rfl fun L v w D N I => by obtain ⟨g, cs, hrg, e, hc⟩ := (I.at 0 rfl (D 1 rfl)); subst hc; exact gVer _ _ rfl rfl (calls_known (calls_eq_ (hv2 w _ _ _ (rd_B (R_k.keep0 I.inv.keep)) (Rd.row hrg) (rd_H (R_s.keep0 I.inv.keep)) (hx.trans I.inv.keep.to_ext)) (ar3 (I.inv.val 0 (D 0 rfl)) e (I.inv.val 2 (D 2 rfl)))))
  · exact ee_val hE rfl rfl rfl fun L v w D N I => ⟨(I.inv.val 3 (D 3 rfl)), Ext.refl _⟩
  intro L v5 W5 hL hIE
  have hI := hIE.inv
  replace R_k := R_k.keep0 hI.keep
  replace R_s := R_s.keep0 hI.keep
  have hxr := hI.keep.to_ext
  replace hx := hx.trans hxr
  have hs_4_4 : (v5 4) = .bool false := hI.val 4 (hL 4 (by decide))
  clear hI hIE hL hE L hxr
  simp only [putP, Act.put, List.setIfInBounds_toArray, List.set_cons_zero, List.set_cons_succ, hs_4_4]
  go_upto_region 5 with fail
  have hE : ∀ p ∈ ([] : List (Nat × (Value → World → Prop))), Lasts [] p.2 := fun p hp => by cases hp
  refine wp_region_text (InvE [] [] [] (fun j u => match j with | 0 => u = .pointer (some ⟨k, 0 * 1, none⟩) | 1 => u = .int .u8 (n8 (KF 0)) | 2 => u = .bool true | 3 => u = .bool true | 4 => u = .pointer (some ⟨k, 31 * 1, none⟩) | 5 => u = .int .u8 (n8 (KF 31)) | 6 => u = .bool true | 7 => u = .bool true | 8 => u = .bool true | 9 => u = .pointer (some ⟨s, 0 * 1, none⟩) | 10 => u = .int .u8 (n8 (SG.getD 0 0)) | 11 => u = .bool true | 12 => u = .bool true | 13 => u = .bool true | 14 => u = .pointer (some ⟨s, 63 * 1, none⟩) | 15 => u = .int .u8 (n8 (SG.getD 63 0)) | 16 => u = .bool true | 17 => u = .bool true | 18 => u = .bool true | 19 => u = .bool true | 20 => u = .bool true | 21 => u = .bool true | 22 => u = .bool false | 23 => u = .bool true | 24 => u = .bool true | 25 => u = .bool true | _ => True) [] W5) plan_4_5 [(16, 0), (17, 1), (18, 2), (19, 3), (20, 4), (21, 5), (22, 6), (23, 7), (24, 8), (25, 9), (26, 10), (27, 11), (28, 12), (29, 13), (30, 14), (31, 15), (32, 16), (33, 17), (34, 18), (35, 19), (36, 20), (37, 21), (38, 22), (39, 23), (40, 24), (0, 25)] 41 rfl (by kernel_rfl) (InvE.start0 (Inv.start0 ⟨by simp, by simp, by simp, by simp⟩ (by simp))) ⟨?_, ?_, ?_, ?_, ?_, ?_, ?_, ?_, ?_, ?_, ?_, ?_, ?_, ?_, ?_, ?_, ?_, ?_, ?_, ?_, ?_, ?_, ?_, ?_, ?_, ?_, trivial⟩ ?_
  · exact ee_val hE rfl rfl rfl fun L v w D N I => give_index _ _ _ _ rfl k 0 1 32 .i64 rfl rfl u22 (by decide) i5_ ⟨rfl, Ext.refl _⟩
  · exact ee_val hE rfl rfl rfl fun L v w D N I => ld_byte (R_k.keep0 I.inv.keep) (m := 0) (by decide) _ rfl (I.inv.val 0 (D 0 rfl)) ldK
  · exact ee_val hE rfl rfl rfl fun L v w D N I => g_eq8 _ _ _ _ _ rfl (I.inv.val 1 (D 1 rfl)) rfl e1 ⟨rfl, Ext.refl _⟩
  · exact ee_val hE rfl rfl rfl fun L v w D N I => ⟨(I.inv.val 2 (D 2 rfl)), Ext.refl _⟩
  · exact ee_want hE rfl rfl rfl rfl (fun u h => h) fun L v w D N I => give_index _ _ _ _ rfl k 31 1 32 .i64 rfl rfl u22 (by decide) i5_ ⟨rfl, Ext.refl _⟩
  · exact ee_want hE rfl rfl rfl rfl (fun u h => h) fun L v w D N I => ld_byte (R_k.keep0 I.inv.keep) (m := 31) (by decide) _ rfl (I.inv.val 4 (D 4 rfl)) ldK
  · exact ee_want hE rfl rfl rfl rfl (fun u h => h) fun L v w D N I => g_eq8 _ _ _ _ _ rfl (I.inv.val 5 (D 5 rfl)) rfl e2 ⟨rfl, Ext.refl _⟩
  · exact ee_val hE rfl rfl rfl fun L v w D N I => give_pick_t _ _ _ rfl (I.inv.val 3 (D 3 rfl)) ⟨(I.inv.val 6 (D 6 rfl)), Ext.refl _⟩
  · exact ee_val hE rfl rfl rfl fun L v w D N I => ⟨(I.inv.val 7 (D 7 rfl)), Ext.refl _⟩
  · exact ee_want hE rfl rfl rfl rfl (fun u h => h) fun L v w D N I => give_index _ _ _ _ rfl s 0 1 64 .i64 rfl rfl u64a (by decide) i5_ ⟨rfl, Ext.refl _⟩
  · exact ee_want hE rfl rfl rfl rfl (fun u h => h) fun L v w D N I => ld_Hb 0 (by decide) hl64 (R_s.keep0 I.inv.keep) _ rfl (I.inv.val 9 (D 9 rfl)) ldK
  · exact ee_want hE rfl rfl rfl rfl (fun u h => h) fun L v w D N I => g_eq8 _ _ _ _ _ rfl (I.inv.val 10 (D 10 rfl)) rfl e3 ⟨rfl, Ext.refl _⟩
  · exact ee_val hE rfl rfl rfl fun L v w D N I => give_pick_t _ _ _ rfl (I.inv.val 8 (D 8 rfl)) ⟨(I.inv.val 11 (D 11 rfl)), Ext.refl _⟩
  · exact ee_val hE rfl rfl rfl fun L v w D N I => ⟨(I.inv.val 12 (D 12 rfl)), Ext.refl _⟩
  · exact ee_want hE rfl rfl rfl rfl (fun u h => h) fun L v w D N I => give_index _ _ _ _ rfl s 63 1 64 .i64 rfl rfl u64a (by decide) i5_ ⟨rfl, Ext.refl _⟩
  · exact ee_want hE rfl rfl rfl rfl (fun u h => h) fun L v w D N I => ld_Hb 63 (by decide) hl64 (R_s.keep0 I.inv.keep) _ rfl (I.inv.val 14 (D 14 rfl)) ldK
  · exact ee_want hE rfl rfl rfl rfl (fun u h => h) fun L v w D N I => g_eq8 _ _ _ _ _ rfl (I.inv.val 15 (D 15 rfl)) rfl e4 ⟨rfl, Ext.refl _⟩
  · exact ee_val hE rfl rfl rfl fun L v w D N I => give_pick_t _ _ _ rfl (I.inv.val 13 (D 13 rfl)) ⟨(I.inv.val 16 (D 16 rfl)), Ext.refl _⟩
  · exact ee_val hE rfl rfl rfl fun L v w D N I => ⟨(I.inv.val 17 (D 17 rfl)), Ext.refl _⟩
  · exact ee_want hE rfl rfl rfl rfl (fun u h => h) fun L v w D N I => ⟨rfl, Ext.refl _⟩
  · exact ee_val hE rfl rfl rfl fun L v w D N I => give_pick_t _ _ _ rfl (I.inv.val 18 (D 18 rfl)) ⟨(I.inv.val 19 (D 19 rfl)), Ext.refl _⟩
  · exact ee_val hE rfl rfl rfl fun L v w D N I => ⟨(I.inv.val 20 (D 20 rfl)), Ext.refl _⟩
  · exact ee_want hE rfl rfl rfl rfl (fun u h => h) fun L v w D N I => ⟨rfl, Ext.refl _⟩
  · exact ee_want hE rfl rfl rfl rfl (fun u h => h) fun L v w D N I => give_not _ _ rfl (I.inv.val 22 (D 22 rfl)) ⟨rfl, Ext.refl _⟩
  · exact ee_val hE rfl rfl rfl fun L v w D N I => give_pick_t _ _ _ rfl (I.inv.val 21 (D 21 rfl)) ⟨(I.inv.val 23 (D 23 rfl)), Ext.refl _⟩
  · exact ee_val hE rfl rfl rfl fun L v w D N I => ⟨(I.inv.val 24 (D 24 rfl)), Ext.refl _⟩
  intro L v6 W6 hL hIE
  have hI := hIE.inv
  replace R_k := R_k.keep0 hI.keep
  replace R_s := R_s.keep0 hI.keep
  have hxr := hI.keep.to_ext
  replace hx := hx.trans hxr
  have hs_0_5 : (v6 25) = .bool true := hI.val 25 (hL 25 (by decide))
  clear hI hIE hL hE L hxr
  simp only [putP, Act.put, List.setIfInBounds_toArray, List.set_cons_zero, List.set_cons_succ, hs_0_5]
  go_wp2
  go_ret
  exact ⟨rfl, hx⟩
def plan_3_0 : List Plan := [⟨[], []⟩, ⟨[], []⟩]
def plan_3_1 : List Plan := [⟨[], []⟩, ⟨[0], [(18, 0)]⟩]
def plan_3_2 : List Plan := [⟨[], []⟩, ⟨[0], [(19, 0)]⟩, ⟨[], []⟩, ⟨[0, 1, 2], [(20, 1), (8, 2)]⟩]
def plan_3_3 : List Plan := [⟨[], []⟩, ⟨[], []⟩, ⟨[0, 1], [(21, 0), (22, 1)]⟩, ⟨[], []⟩, ⟨[0, 1, 2, 3], [(23, 2), (9, 3)]⟩]
def plan_3_4 : List Plan := [⟨[], []⟩, ⟨[], []⟩, ⟨[], []⟩, ⟨[0, 1, 2], [(24, 0), (25, 1), (26, 2)]⟩, ⟨[0, 1, 2, 3], [(27, 3)]⟩]
def plan_3_9 : List Plan := [⟨[], []⟩, ⟨[], []⟩, ⟨[], []⟩, ⟨[0, 1, 2], [(39, 0), (40, 1), (41, 2)]⟩, ⟨[0, 1, 2, 3], [(42, 3)]⟩]
def plan_3_10 : List Plan := [⟨[], []⟩, ⟨[0], [(43, 0)]⟩]
def plan_3_13 : List Plan := [⟨[], []⟩, ⟨[], []⟩, ⟨[], []⟩, ⟨[2], [(52, 2)]⟩, ⟨[0, 1, 2, 3], [(50, 0), (51, 1), (53, 3)]⟩, ⟨[0, 1, 2, 3, 4], [(54, 4)]⟩]
def plan_3_16 : List Plan := [⟨[], []⟩, ⟨[], []⟩, ⟨[], []⟩, ⟨[0, 1, 2], [(62, 0), (63, 1), (64, 2)]⟩, ⟨[0, 1, 2, 3], [(65, 3)]⟩]
def plan_3_17 : List Plan := [⟨[], []⟩, ⟨[0], [(66, 0)]⟩, ⟨[0, 1], [(67, 1)]⟩, ⟨[], []⟩, ⟨[], []⟩, ⟨[0, 1, 2, 3, 4], [(68, 2), (69, 3), (70, 4)]⟩, ⟨[0, 1, 2, 3, 4, 5], [(71, 5)]⟩]
def plan_3_18 : List Plan := [⟨[], []⟩, ⟨[0], [(72, 0)]⟩, ⟨[0, 1], [(73, 1)]⟩, ⟨[0, 1, 2], [(73, 1), (74, 2)]⟩, ⟨[0, 1, 2, 3], [(75, 3)]⟩, ⟨[0, 1, 2, 3, 4], [(76, 4)]⟩, ⟨[0, 1, 2, 3, 4, 5], [(76, 4), (77, 5)]⟩, ⟨[0, 1, 2, 3, 4, 5, 6], [(76, 4), (78, 6)]⟩, ⟨[0, 1, 2, 3, 4, 5, 6, 7], [(79, 7)]⟩, ⟨[0, 1, 2, 3, 4, 5, 6, 7, 8], [(80, 8)]⟩, ⟨[0, 1, 2, 3, 4, 5, 6, 7, 8, 9], [(80, 8), (81, 9)]⟩, ⟨[0, 1, 2, 3, 4, 5, 6, 7, 8, 9, 10], [(80, 8), (82, 10)]⟩, ⟨[0, 1, 2, 3, 4, 5, 6, 7, 8, 9, 10, 11], [(83, 11)]⟩, ⟨[0, 1, 2, 3, 4, 5, 6, 7, 8, 9, 10, 11, 12], [(84, 12)]⟩, ⟨[0, 1, 2, 3, 4, 5, 6, 7, 8, 9, 10, 11, 12, 13], [(84, 12), (85, 13)]⟩, ⟨[0, 1, 2, 3, 4, 5, 6, 7, 8, 9, 10, 11, 12, 13, 14], [(84, 12), (86, 14)]⟩, ⟨[0, 1, 2, 3, 4, 5, 6, 7, 8, 9, 10, 11, 12, 13, 14, 15], [(87, 15)]⟩, ⟨[0, 1, 2, 3, 4, 5, 6, 7, 8, 9, 10, 11, 12, 13, 14, 15, 16], [(88, 16)]⟩, ⟨[0, 1, 2, 3, 4, 5, 6, 7, 8, 9, 10, 11, 12, 13, 14, 15, 16, 17], [(88, 16), (89, 17)]⟩, ⟨[0, 1, 2, 3, 4, 5, 6, 7, 8, 9, 10, 11, 12, 13, 14, 15, 16, 17, 18], [(88, 16), (90, 18)]⟩, ⟨[0, 1, 2, 3, 4, 5, 6, 7, 8, 9, 10, 11, 12, 13, 14, 15, 16, 17, 18, 19], [(91, 19)]⟩]
set_option maxRecDepth 20000 in
set_option maxHeartbeats 16000000 in
theorem holds_any (f : Nat → UInt8) (A : Option Addr) (n c : Nat) (l : List UInt8) (x2 : Int) (w : World) (hl : l.length = n) (hc : n ≤ c) (hr : Rd w A (l.map bv)) (bnd : n ≤ 4900000) (hT : Tab64 w) :
    Calls Tryd.prog 3 #[.agg (bcells f), .slice A n c, .int .i64 x2] w fun e w' => e = .returned (.bool true) ∧ Ext w w' := by
  have hpub : ∀ w', Ext w w' → Calls Tryd.prog 5 #[.agg (bcells f)] w' fun e w2 => e = .returned (.agg (bcells (sKey (sNum (sHash f))))) ∧ Ext w' w2 := fun w' hx => spub_any f w' (hT.ext hx)
  have hsig : ∀ w', Ext w w' → Calls Tryd.prog 6 #[.agg (bcells f), .slice A n c] w' fun e w2 => e = .returned (h64 (sSig (sNum (sHash f)) (lf (sHash f) 32) l)) ∧ Ext w' w2 := fun w' hx => ssig_any f A n c l w' hl hc (hr.ext hx) bnd (hT.ext hx)
  have f6 : sVer (blist (sKey (sNum (sHash f)))) l (sSig (sNum (sHash f)) (lf (sHash f) 32) l) = true := sVer_sig _ _ _
  have hl64 : (sSig (sNum (sHash f)) (lf (sHash f) 32) l).length = 64 := sSig_len _ _ _
  have hlow : V (lf (sSig (sNum (sHash f)) (lf (sHash f) 32) l) 32) < ordN := sSig_low _ _ _
  generalize sSig (sNum (sHash f)) (lf (sHash f) 32) l = SG at *
  generalize sKey (sNum (sHash f)) = KF at *
  have hv1 : ∀ w' A1 A', Rd w' A1 ((blist KF).map bv) → Rd w' A' (SG.map bv) → Ext w w' → Calls Tryd.prog 7 #[.slice A1 32 32, .slice A n c, .slice A' 64 64] w' fun e w2 => e = .returned (.bool true) ∧ Ext w' w2 := fun w' A1 A' h1 h2 hx => f6 ▸ sver_any A1 32 32 (blist KF) A n c l A' 64 64 SG w' (blist_len _) (Nat.le_refl _) h1 hl hc (hr.ext hx) hl64 (Nat.le_refl _) h2 bnd (hT.ext hx)
  have hv2 : ∀ w' A1 A' (n' c' : Nat) (g : List UInt8), Rd w' A1 ((blist KF).map bv) → Rd w' A (l.map bv) → g.length = n' → n' ≤ c' → Rd w' A' (g.map bv) → Tab64 w' → sVer (blist KF) l g = false → Calls Tryd.prog 7 #[.slice A1 32 32, .slice A n c, .slice A' n' c'] w' fun e w2 => e = .returned (.bool false) ∧ Ext w' w2 := fun w' A1 A' n' c' g h1 hr h3 h4 h5 hT hV => hV ▸ sver_any A1 32 32 (blist KF) A n c l A' n' c' g w' (blist_len _) (Nat.le_refl _) h1 hl hc hr h3 h4 h5 bnd hT
  have hv3 : ∀ w' A1 A' (n' c' : Nat) (kb : List UInt8), Rd w' A1 (kb.map bv) → kb.length = n' → n' ≤ c' → Rd w' A (l.map bv) → Rd w' A' (SG.map bv) → Tab64 w' → sVer kb l SG = false → Calls Tryd.prog 7 #[.slice A1 n' c', .slice A n c, .slice A' 64 64] w' fun e w2 => e = .returned (.bool false) ∧ Ext w' w2 := fun w' A1 A' n' c' kb h1 h3 h4 hr h5 hT hV => hV ▸ sver_any A1 n' c' kb A n c l A' 64 64 SG w' h3 h4 h1 hl hc hr hl64 (Nat.le_refl _) h5 bnd hT
  have hpl : V (lf SG 32) + ordN < 16777216 ^ 11 := Nat.lt_of_lt_of_le (Nat.add_lt_add_right hlow ordN) (by decide)
  obtain ⟨HI, hHI⟩ : ∃ HI, nb (V (lf SG 32) + ordN) = HI := ⟨_, rfl⟩
  have hVH : ordN ≤ V HI := by
    rw [← hHI, V_nb (Nat.lt_trans (Nat.add_lt_add_right hlow ordN) (by decide))]
    omega
  replace hHI := Lib.hid hHI
  have hS32 : (SG.take 32).length = 32 := by simp [hl64]
  have hHl : (SG.take 32 ++ blist HI).length = 64 := by simp [hl64, blist_len]
  have hVn : sVer (blist KF) l (SG.take 32 ++ blist HI) = false := sVer_high _ _ _ (by
    have e1 : ∀ i, i < 32 → lf (SG.take 32 ++ blist HI) 32 i = HI i := fun i hi => by
      have h2 := lf_blist HI i hi
      unfold lf at *
      rw [Nat.zero_add] at h2
      rw [← h2]
      simp only [List.getD_eq_getElem?_getD]
      rw [List.getElem?_append_right (by rw [hS32]; omega), hS32, Nat.add_sub_cancel_left]
    rw [V_congr e1]
    exact hVH)
  have hGl : (SG ++ [0]).length = 65 := by simp [hl64]
  have hVg : sVer (blist KF) l (SG ++ [0]) = false := sVer_sig_len _ _ _ (by rw [hGl]; decide)
  obtain ⟨kk, hk63, hkk⟩ : ∃ kk : Nat, kk ≤ 63 ∧ ((x2 < 0 ∨ 63 < x2) ∧ kk = 63 ∨ 0 ≤ x2 ∧ x2 ≤ 63 ∧ x2 = (kk : Int)) := by
    by_cases h : x2 < 0 ∨ 63 < x2
    · exact ⟨63, by decide, .inl ⟨h, rfl⟩⟩
    · exact ⟨x2.toNat, by omega, .inr ⟨by omega, by omega, by omega⟩⟩
  have hKl : (SG.take kk).length = kk := by rw [List.length_take, hl64]; omega
  have hVk : sVer (blist KF) l (SG.take kk) = false := sVer_sig_len _ _ _ (by rw [hKl]; omega)
  have hkL : ((blist KF).take (kk % 32)).length = kk % 32 := by rw [List.length_take, blist_len]; omega
  have hV3 : sVer ((blist KF).take (kk % 32)) l SG = false := sVer_key_len _ _ _ (by rw [hkL]; omega)
  clear f6 hlow hVH
  go_enter Tryd.func3, Tryd.ntmps3
  go_upto_region 0 with fail
  have hx : Ext w w := Ext.refl w
  have hok : TrsOk [] w.heap.size ([(tk (some 0) 0 22 (none) (fun u => u = .agg (bcells (f))) (fun _ => True))] : List Trk) := ⟨by simp [tk], by simp [tk], by simp [tk], by simp [tk]⟩
  have hE : ∀ p ∈ ([] : List (Nat × (Value → World → Prop))), Lasts [] p.2 := fun p hp => by cases hp
  refine wp_region_text (InvE [] [] [] (fun j u => match j with | 1 => u = .bool false | _ => True) [(tk (some 0) 0 22 (none) (fun u => u = .agg (bcells (f))) (fun _ => True))] w) plan_3_0 [(3, 0), (6, 1)] 92 rfl (by kernel_rfl) (InvE.start0 (Inv.start0 hok (by simp))) ⟨?_, ?_, trivial⟩ ?_
  · exact ee_new 0 hE rfl rfl rfl rfl rfl rfl hok fun L v w D I => give_box (bcells (f)).toList rfl rfl ⟨trivial, rfl, _, rfl, rfl⟩
  · exact ee_val hE rfl rfl rfl fun L v w D N I => ⟨rfl, Ext.refl _⟩
  intro L v1 W1 hL hIE
  have hI := hIE.inv
  obtain ⟨b, hb_b, lo_b, R_b⟩ := hI.made0 0 rfl (hL 0 (by decide))
  have hxr := hI.keep.to_ext
  replace hx := hx.trans hxr
  clear hI hIE hL hE L hok hxr
  simp only [putP, Act.put, List.setIfInBounds_toArray, List.set_cons_zero, List.set_cons_succ, hb_b]
  go_upto_region 1 with fail
  have hE : ∀ p ∈ ([] : List (Nat × (Value → World → Prop))), Lasts [] p.2 := fun p hp => by cases hp
  refine wp_region_text (InvE [] [] [] (fun j u => match j with | 0 => u = .bool true | 1 => u = .bool true | _ => True) [] W1) plan_3_1 [(18, 0), (7, 1)] 92 rfl (by kernel_rfl) (InvE.start0 (Inv.start0 ⟨by simp, by simp, by simp, by simp⟩ (by simp))) ⟨?_, ?_, trivial⟩ ?_
  · exact ee_val hE rfl rfl rfl fun L v w D N I => gShown _ _ rfl rfl (calls_known (shown8_any w (hT.ext (hx.trans I.inv.keep.to_ext))))
  · exact ee_val hE rfl rfl rfl fun L v w D N I => ⟨(I.inv.val 0 (D 0 rfl)), Ext.refl _⟩
  intro L v2 W2 hL hIE
  have hI := hIE.inv
  replace R_b := R_b.keep0 hI.keep
  have hxr := hI.keep.to_ext
  replace hx := hx.trans hxr
  have hs_7_1 : (v2 1) = .bool true := hI.val 1 (hL 1 (by decide))
  clear hI hIE hL hE L hxr
  simp only [putP, Act.put, List.setIfInBounds_toArray, List.set_cons_zero, List.set_cons_succ, hs_7_1]
  go_upto_region 2 with fail
  have hok : TrsOk [] W2.heap.size ([(tk (some 2) 0 22 (some 3) (sz 32) (fun u => u = .agg (bcells (KF))))] : List Trk) := ⟨by simp [tk], by simp [tk], by simp [tk], by simp [tk]⟩
  have hE : ∀ p ∈ ([] : List (Nat × (Value → World → Prop))), Lasts [22] p.2 := fun p hp => by cases hp
  refine wp_region_text (InvE [22] [] [] (fun j u => match j with | 0 => u = .agg (bcells (f)) | 1 => u = .agg (bcells (KF)) | _ => True) [(tk (some 2) 0 22 (some 3) (sz 32) (fun u => u = .agg (bcells (KF))))] W2) plan_3_2 [(19, 0), (20, 1), (8, 2)] 92 rfl (by kernel_rfl) (InvE.start0 (Inv.start0 hok (by simp))) ⟨?_, ?_, ?_, ?_, trivial⟩ ?_
  · exact ee_val hE rfl rfl rfl fun L v w D N I => ld_B (R_b.keep0 I.inv.keep) _ rfl rfl ldK
  · exact ee_val hE rfl rfl rfl fun L v w D N I => gPub _ _ rfl rfl (calls_known (calls_eq_ (hpub w (hx.trans I.inv.keep.to_ext)) (ar1 (I.inv.val 0 (D 0 rfl)))))
  · exact ee_new 0 hE rfl rfl rfl rfl rfl rfl hok fun L v w D I => al_B rfl fun c h => ⟨trivial, rfl, c, rfl, sz_mk c h⟩
  · exact ee_lay 0 2 hE rfl rfl rfl rfl rfl rfl rfl rfl hok fun L v w D I n cs hb hR ho => st_B hR (sz_len ho) _ _ rfl hb (I.inv.val 1 (D 1 rfl)) fun _ c a b k => ⟨trivial, k, c, a, b⟩
  intro L v3 W3 hL hIE
  have hI := hIE.inv
  obtain ⟨k, hb_k, lo_k, R_k⟩ := hI.made 0 rfl (hL 2 (by decide)) (hL 3 (by decide))
  replace R_b := R_b.keep0 hI.keep
  have hxr := hI.keep.to_ext
  replace hx := hx.trans hxr
  clear hI hIE hL hE L hok hxr
  simp only [putP, Act.put, List.setIfInBounds_toArray, List.set_cons_zero, List.set_cons_succ, hb_k]
  go_upto_region 3 with fail
  have hok : TrsOk [] W3.heap.size ([(tk (some 3) 0 26 (some 4) (sz 64) (fun u => u = h64 (SG)))] : List Trk) := ⟨by simp [tk], by simp [tk], by simp [tk], by simp [tk]⟩
  have hE : ∀ p ∈ ([] : List (Nat × (Value → World → Prop))), Lasts [26] p.2 := fun p hp => by cases hp
  refine wp_region_text (InvE [26] [] [] (fun j u => match j with | 0 => u = .agg (bcells (f)) | 1 => u = .slice A n c | 2 => u = h64 SG | _ => True) [(tk (some 3) 0 26 (some 4) (sz 64) (fun u => u = h64 (SG)))] W3) plan_3_3 [(21, 0), (22, 1), (23, 2), (9, 3)] 92 rfl (by kernel_rfl) (InvE.start0 (Inv.start0 hok (by simp))) ⟨?_, ?_, ?_, ?_, ?_, trivial⟩ ?_
  · exact ee_val hE rfl rfl rfl fun L v w D N I => ld_B (R_b.keep0 I.inv.keep) _ rfl rfl ldK
  · exact ee_val hE rfl rfl rfl fun L v w D N I => ⟨rfl, Ext.refl _⟩
  · exact ee_val hE rfl rfl rfl fun L v w D N I => gSig _ _ rfl rfl (calls_known (calls_eq_ (hsig w (hx.trans I.inv.keep.to_ext)) (ar2 (I.inv.val 0 (D 0 rfl)) (I.inv.val 1 (D 1 rfl)))))
  · exact ee_new 0 hE rfl rfl rfl rfl rfl rfl hok fun L v w D I => al_H rfl fun c h => ⟨trivial, rfl, c, rfl, sz_mk c h⟩
  · exact ee_lay 0 3 hE rfl rfl rfl rfl rfl rfl rfl rfl hok fun L v w D I n cs hb hR ho => st_H hR (sz_len ho) hl64 _ _ rfl hb (I.inv.val 2 (D 2 rfl)) fun _ c a b k => ⟨trivial, k, c, a, b⟩
  intro L v4 W4 hL hIE
  have hI := hIE.inv
  obtain ⟨s, hb_s, lo_s, R_s⟩ := hI.made 0 rfl (hL 3 (by decide)) (hL 4 (by decide))
  replace R_b := R_b.keep0 hI.keep
  replace R_k := R_k.keep0 hI.keep
  have hxr := hI.keep.to_ext
  replace hx := hx.trans hxr
  clear hI hIE hL hE L hok hxr
  simp only [putP, Act.put, List.setIfInBounds_toArray, List.set_cons_zero, List.set_cons_succ, hb_s]
  go_upto_region 4 with fail
  have hE : ∀ p ∈ ([] : List (Nat × (Value → World → Prop))), Lasts [] p.2 := fun p hp => by cases hp
  refine wp_region_plan (InvE [] [] [] (fun j u => match j with | 0 => u = .slice (some ⟨k, 0, none⟩) 32 32 | 1 => u = .slice A n c | 2 => u = .slice (some ⟨s, 0, none⟩) 64 64 | 3 => u = .bool true | 4 => u = .bool true | _ => True) [] W4) plan_3_4 [(24, 0), (25, 1), (26, 2), (27, 3), (10, 4)] 92 (by kernel_rfl) rfl (by kernel_rfl) (InvE.start (Inv.start ⟨by simp, by simp, by simp, by simp⟩ (by simp))) ⟨?_, ?_, ?_, ?_, ?_, trivial⟩ ?_
  · exact ee_val hE rfl rfl rfl fun L v w D N I => sl32 _ rfl rfl ⟨rfl, Ext.refl _⟩
  · exact ee_val hE rfl rfl rfl fun L v w D N I => ⟨rfl, Ext.refl _⟩
  · exact ee_val hE rfl rfl rfl fun L v w D N I => sl64 _ rfl rfl ⟨rfl, Ext.refl _⟩
  · exact ee_val hE rfl rfl rfl fun L v w D N I => gVer _ _ rfl rfl (calls_known (calls_eq_ (hv1 w _ _ (rd_B (R_k.keep0 I.inv.keep)) (rd_H (R_s.keep0 I.inv.keep)) (hx.trans I.inv.keep.to_ext)) (ar3 (I.inv.val 0 (D 0 rfl)) (I.inv.val 1 (D 1 rfl)) (I.inv.val 2 (D 2 rfl)))))
  · exact ee_val hE rfl rfl rfl fun L v w D N I => ⟨(I.inv.val 3 (D 3 rfl)), Ext.refl _⟩
  intro L v5 W5 hL hIE
  have hI := hIE.inv
  replace R_b := R_b.keep0 hI.keep
  replace R_k := R_k.keep0 hI.keep
  replace R_s := R_s.keep0 hI.keep
  have hxr := hI.keep.to_ext
  replace hx := hx.trans hxr
  have hs_10_4 : (v5 4) = .bool true := hI.val 4 (hL 4 (by decide))
  clear hI hIE hL hE L hxr
  simp only [putP, Act.put, List.setIfInBounds_toArray, List.set_cons_zero, List.set_cons_succ, hs_10_4]
  go_upto_region 5 with fail
  go_cut [11] from 28 to 32 (fun p wx => ∃ m : Nat, p = .pointer (some ⟨m, 0, none⟩) ∧ RV wx m 22 (fun u => u = .agg (bcells HI)) ∧ Ext W5 wx)
  case first =>
    have hof := of_sig (W := W5) R_s hl64
    clear hpub hsig hv1 hv2 hT hr hx
    go_wp2_with (first
      | (go_at_call 10; with_reducible refine hof.mono ?_; rintro e w1 ⟨v1, rfl, hv1, hx1⟩)
      | (go_at_call 11; with_reducible refine (rorder_any _).mono ?_; rintro e w2 ⟨v2, rfl, hv2, hx2⟩; replace hv1 := hv1.ext hx2)
      | (go_at_call 9; with_reducible refine (plus_num _ _ _ _ _ hv1 hv2 hpl).mono ?_; rintro e w3 ⟨v3, rfl, hv3, hx3⟩)
      | (go_at_call 8; with_reducible refine (bytes_num _ _ _ hv3).mono ?_; rintro e w4 ⟨rfl, hx4⟩; rw [hHI.out]; obtain ⟨y4, rfl⟩ := grw_of_ext (((hx1.trans hx2).trans hx3).trans hx4); clear hx1 hx2 hx3 hx4 hv1 hv2 hv3 hof))
    go_meet
    case rel => exact ⟨_, rfl, RV_newB _ _ _, (grw_ext _ _).trans (ext_alloc _ _)⟩
  case rest =>
  obtain ⟨m, rfl, R_m, hx5⟩ := hcut
  obtain ⟨Wb, hWb⟩ : ∃ Wb, Wb = wc := ⟨_, rfl⟩
  subst hWb
  replace R_k := R_k.ext hx5
  replace R_s := R_s.ext hx5
  replace hx := hx.trans hx5
  replace hr := hr.ext hx
  replace hT := hT.ext hx
  clear R_b hx5
  have hR32 : Rd Wb (some ⟨s, 0, none⟩) ((SG.take 32).map bv) := by rw [List.map_take]; exact (rd_H R_s).take_ 32
  go_upto_region 9 with (first
    | (at_builtin; refine wpList_appb0 rfl (.tmp 33) (.tmp 34) 23 5 rfl u8rowH64 rfl (some ⟨s, 0, none⟩) 32 64 (SG.take 32) rfl hS32 hR32 (by decide) ?_; intro A1 c1 w7 ho7 hc7 hm7 hr7 hx7; have hrM := (rd_B R_m).ext hx7)
    | (at_builtin; refine wpList_appb rfl (.tmp 36) (.tmp 37) 23 5 rfl u8rowH64 Wb.heap.size _ 32 (SG.take 32) rfl ho7 (some ⟨m, 0, none⟩) 32 32 (blist HI) rfl (blist_len _) hrM (by decide) hx7.size ?_; intro A2 c2 w8 ho8 hc8 hm8 hr8 hx8))
  have hx5 : Ext Wb w8 := hx8 Wb hx7 (Nat.le_refl _)
  clear hx8 hrM ho7 hr7
  have hy := hx
  replace hx := hx.trans hx5
  clear hR32
  have hE : ∀ p ∈ ([] : List (Nat × (Value → World → Prop))), Lasts [] p.2 := fun p hp => by cases hp
  refine wp_region_text (InvE [] [] [] (fun j u => match j with | 0 => u = .slice (some ⟨k, 0, none⟩) 32 32 | 1 => u = .slice A n c | 2 => u = .slice A2 64 c2 | 3 => u = .bool false | 4 => u = .bool false | _ => True) [] w8) plan_3_9 [(39, 0), (40, 1), (41, 2), (42, 3), (13, 4)] 92 rfl (by kernel_rfl) (InvE.start0 (Inv.start0 ⟨by simp, by simp, by simp, by simp⟩ (by simp))) ⟨?_, ?_, ?_, ?_, ?_, trivial⟩ ?_
  · exact ee_val hE rfl rfl rfl fun L v w D N I => sl32 _ rfl rfl ⟨rfl, Ext.refl _⟩
  · exact ee_val hE rfl rfl rfl fun L v w D N I => ⟨rfl, Ext.refl _⟩
  · exact ee_val hE rfl rfl rfl fun L v w D N I => ⟨rfl, Ext.refl _⟩
  · exact ee_val hE rfl rfl rfl fun L v w D N I => gVer _ _ rfl rfl (calls_known (calls_eq_ (hv2 w _ A2 64 c2 _ (rd_B (R_k.ext (hx5.trans I.inv.keep.to_ext))) (hr.ext (hx5.trans I.inv.keep.to_ext)) hHl hc8 (Rd.of_own (own_ext ho8 I.inv.keep.to_ext)) (hT.ext (hx5.trans I.inv.keep.to_ext)) hVn) (ar3 (I.inv.val 0 (D 0 rfl)) (I.inv.val 1 (D 1 rfl)) (I.inv.val 2 (D 2 rfl)))))
  · exact ee_val hE rfl rfl rfl fun L v w D N I => ⟨(I.inv.val 3 (D 3 rfl)), Ext.refl _⟩
  intro L v6 W6 hL hIE
  have hI := hIE.inv
  have hxr := hI.keep.to_ext
  replace hx := hx.trans hxr
  have hs_13_9 : (v6 4) = .bool false := hI.val 4 (hL 4 (by decide))
  replace hx5 := hx5.trans hxr
  replace ho8 := own_ext ho8 hxr
  clear hI hIE hL hE L hxr
  simp only [putP, Act.put, List.setIfInBounds_toArray, List.set_cons_zero, List.set_cons_succ, hs_13_9]
  go_upto_region 10 with fail
  have hE : ∀ p ∈ ([] : List (Nat × (Value → World → Prop))), Lasts [] p.2 := fun p hp => by cases hp
  refine wp_region_text (InvE [] [] [] (fun j u => match j with | 0 => u = .int .i64 x2 | 1 => u = .int .i64 x2 | _ => True) [] W6) plan_3_10 [(43, 0), (14, 1)] 92 rfl (by kernel_rfl) (InvE.start0 (Inv.start0 ⟨by simp, by simp, by simp, by simp⟩ (by simp))) ⟨?_, ?_, trivial⟩ ?_
  · exact ee_val hE rfl rfl rfl fun L v w D N I => ⟨rfl, Ext.refl _⟩
  · exact ee_val hE rfl rfl rfl fun L v w D N I => ⟨(I.inv.val 0 (D 0 rfl)), Ext.refl _⟩
  intro L v7 W7 hL hIE
  have hI := hIE.inv
  have hxr := hI.keep.to_ext
  replace hx := hx.trans hxr
  have hs_14_10 : (v7 1) = .int .i64 x2 := hI.val 1 (hL 1 (by decide))
  replace hx5 := hx5.trans hxr
  replace ho8 := own_ext ho8 hxr
  clear hI hIE hL hE L hxr
  simp only [putP, Act.put, List.setIfInBounds_toArray, List.set_cons_zero, List.set_cons_succ, hs_14_10]
  go_step
  go_step
  go_step
  go_cut [14] from 44 to 49 (fun p wx => p = .int .i64 (kk : Int) ∧ wx = W7)
  case first =>
    clear hpub hsig hv1 hv2 hT hr hx
    rcases hkk with ⟨h1 | h1, rfl⟩ | ⟨h1, h2, rfl⟩
    · go_wp2
      go_meet
      case rel => exact ⟨rfl, rfl⟩
    · have h3 : ¬ x2 < 0 := by omega
      go_wp2
      go_meet
      case rel => exact ⟨rfl, rfl⟩
    · have h3 : ¬ (kk : Int) < 0 := by omega
      have h4 : ¬ 63 < (kk : Int) := by omega
      go_wp2
      go_meet
      case rel => exact ⟨rfl, rfl⟩
  case rest =>
  obtain ⟨rfl, hwc⟩ := hcut
  replace hwc := hwc.symm
  subst hwc
  go_upto_region 13 with fail
  have hE : ∀ p ∈ ([] : List (Nat × (Value → World → Prop))), Lasts [] p.2 := fun p hp => by cases hp
  refine wp_region_plan (InvE [] [] [] (fun j u => match j with | 0 => u = .slice (some ⟨k, 0, none⟩) 32 32 | 1 => u = .slice A n c | 2 => u = .int .i64 (kk : Int) | 3 => u = .slice (some ⟨s, 0, none⟩) kk 64 | 4 => u = .bool false | 5 => u = .bool false | _ => True) [] W7) plan_3_13 [(50, 0), (51, 1), (52, 2), (53, 3), (54, 4), (15, 5)] 92 (by kernel_rfl) rfl (by kernel_rfl) (InvE.start (Inv.start ⟨by simp, by simp, by simp, by simp⟩ (by simp))) ⟨?_, ?_, ?_, ?_, ?_, ?_, trivial⟩ ?_
  · exact ee_val hE rfl rfl rfl fun L v w D N I => sl32 _ rfl rfl ⟨rfl, Ext.refl _⟩
  · exact ee_val hE rfl rfl rfl fun L v w D N I => ⟨rfl, Ext.refl _⟩
  · exact ee_val hE rfl rfl rfl fun L v w D N I => ⟨rfl, Ext.refl _⟩
  · exact ee_val hE rfl rfl rfl fun L v w D N I => sl64hn kk hk63 _ _ rfl (I.inv.val 2 (D 2 rfl)) rfl ⟨rfl, Ext.refl _⟩
  · exact ee_val hE rfl rfl rfl fun L v w D N I => gVer _ _ rfl rfl (calls_known (calls_eq_ (hv2 w _ (some ⟨s, 0, none⟩) kk 64 (SG.take kk) (rd_B (R_k.ext (hx5.trans I.inv.keep.to_ext))) (hr.ext (hx5.trans I.inv.keep.to_ext)) hKl (by omega) (by rw [List.map_take]; exact (rd_H (R_s.ext (hx5.trans I.inv.keep.to_ext))).take_ kk) (hT.ext (hx5.trans I.inv.keep.to_ext)) hVk) (ar3 (I.inv.val 0 (D 0 rfl)) (I.inv.val 1 (D 1 rfl)) (I.inv.val 3 (D 3 rfl)))))
  · exact ee_val hE rfl rfl rfl fun L v w D N I => ⟨(I.inv.val 4 (D 4 rfl)), Ext.refl _⟩
  intro L v8 W8 hL hIE
  have hI := hIE.inv
  have hxr := hI.keep.to_ext
  replace hx := hx.trans hxr
  have hs_15_13 : (v8 5) = .bool false := hI.val 5 (hL 5 (by decide))
  replace hx5 := hx5.trans hxr
  replace ho8 := own_ext ho8 hxr
  clear hI hIE hL hE L hxr
  simp only [putP, Act.put, List.setIfInBounds_toArray, List.set_cons_zero, List.set_cons_succ, hs_15_13]
  go_upto_region 14 with fail
  have hdr : Ext W8 W8.drew := ext_drew _
  go_still_tail 3, (by kernel_rfl)
  change wpList _ _ _ _ _ W8.drew
  generalize W8.drew = w13 at *
  have ho13 := own_zero (own_ext ho8 hdr)
  have hx13 := hx5.trans hdr
  have hrS13 := rd_H (R_s.ext hx13)
  clear ho8 hx5 hdr
  go_upto_region 16 with (first
    | (at_builtin; refine wpList_appb rfl (.tmp 56) (.tmp 57) 23 5 rfl u8rowH64 Wb.heap.size _ 0 [] rfl ho13 (some ⟨s, 0, none⟩) 64 64 SG rfl hl64 hrS13 (by decide) hx13.size ?_; intro A3 c3 w14 ho14 hc14 hm14 hr14 hx14; clear hr14; have hx14b : Ext Wb w14 := hx14 Wb hx13 (Nat.le_refl _); have ho14b := own_b ho14; have hx14c : Ext Wb (w14.alloc (.cells #[.int .u8 0] 5)) := hx14b.trans (ext_alloc _ _); have hr0 : Rd (w14.alloc (.cells #[.int .u8 0] 5)) (some ⟨w14.heap.size, 0, none⟩) (([0] : List UInt8).map bv) := rd_new_one w14 (bv 0) _; clear ho14 hx14)
    | (at_builtin; refine wpList_appb rfl (.tmp 59) (.tmp 60) 23 5 rfl u8rowH64 Wb.heap.size _ 64 SG rfl ho14b (some ⟨w14.heap.size, 0, none⟩) 1 1 [0] rfl rfl hr0 (by decide) hx14c.size ?_; intro A4 c4 w15 ho15 hc15 hm15 hr15 hx15))
  have hx5 : Ext Wb w15 := hx15 Wb hx14c (Nat.le_refl _)
  replace hx := hy.trans hx5
  clear hr0 hx14c ho14b hx14b hrS13 hx13 ho13 hx15 ho15
  have hE : ∀ p ∈ ([] : List (Nat × (Value → World → Prop))), Lasts [] p.2 := fun p hp => by cases hp
  refine wp_region_text (InvE [] [] [] (fun j u => match j with | 0 => u = .slice (some ⟨k, 0, none⟩) 32 32 | 1 => u = .slice A n c | 2 => u = .slice A4 65 c4 | 3 => u = .bool false | 4 => u = .bool false | _ => True) [] w15) plan_3_16 [(62, 0), (63, 1), (64, 2), (65, 3), (16, 4)] 92 rfl (by kernel_rfl) (InvE.start0 (Inv.start0 ⟨by simp, by simp, by simp, by simp⟩ (by simp))) ⟨?_, ?_, ?_, ?_, ?_, trivial⟩ ?_
  · exact ee_val hE rfl rfl rfl fun L v w D N I => sl32 _ rfl rfl ⟨rfl, Ext.refl _⟩
  · exact ee_val hE rfl rfl rfl fun L v w D N I => ⟨rfl, Ext.refl _⟩
  · exact ee_val hE rfl rfl rfl fun L v w D N I => ⟨rfl, Ext.refl _⟩
  · exact ee_val hE rfl rfl rfl fun L v w D N I => gVer _ _ rfl rfl (calls_known (calls_eq_ (hv2 w _ A4 65 c4 _ (rd_B (R_k.ext (hx5.trans I.inv.keep.to_ext))) (hr.ext (hx5.trans I.inv.keep.to_ext)) hGl hc15 (hr15.ext I.inv.keep.to_ext) (hT.ext (hx5.trans I.inv.keep.to_ext)) hVg) (ar3 (I.inv.val 0 (D 0 rfl)) (I.inv.val 1 (D 1 rfl)) (I.inv.val 2 (D 2 rfl)))))
  · exact ee_val hE rfl rfl rfl fun L v w D N I => ⟨(I.inv.val 3 (D 3 rfl)), Ext.refl _⟩
  intro L v9 W9 hL hIE
  have hI := hIE.inv
  have hxr := hI.keep.to_ext
  replace hx := hx.trans hxr
  have hs_16_16 : (v9 4) = .bool false := hI.val 4 (hL 4 (by decide))
  replace hx5 := hx5.trans hxr
  replace hr15 := hr15.ext hxr
  clear hI hIE hL hE L hxr
  simp only [putP, Act.put, List.setIfInBounds_toArray, List.set_cons_zero, List.set_cons_succ, hs_16_16]
  go_upto_region 17 with fail
  have hE : ∀ p ∈ ([] : List (Nat × (Value → World → Prop))), Lasts [] p.2 := fun p hp => by cases hp
  refine wp_region_plan (InvE [] [] [] (fun j u => match j with | 0 => u = .int .i64 (kk : Int) | 1 => u = .int .i64 ((kk % 32 : Nat) : Int) | 2 => u = .slice (some ⟨k, 0, none⟩) (kk % 32) 32 | 3 => u = .slice A n c | 4 => u = .slice (some ⟨s, 0, none⟩) 64 64 | 5 => u = .bool false | 6 => u = .bool false | _ => True) [] W9) plan_3_17 [(66, 0), (67, 1), (68, 2), (69, 3), (70, 4), (71, 5), (17, 6)] 92 (by kernel_rfl) rfl (by kernel_rfl) (InvE.start (Inv.start ⟨by simp, by simp, by simp, by simp⟩ (by simp))) ⟨?_, ?_, ?_, ?_, ?_, ?_, ?_, trivial⟩ ?_
  · exact ee_val hE rfl rfl rfl fun L v w D N I => ⟨rfl, Ext.refl _⟩
  · exact ee_val hE rfl rfl rfl fun L v w D N I => g_rem32 kk hk63 _ _ _ rfl (I.inv.val 0 (D 0 rfl)) rfl ⟨rfl, Ext.refl _⟩
  · exact ee_val hE rfl rfl rfl fun L v w D N I => sl32hn (kk % 32) (by omega) _ _ rfl (I.inv.val 1 (D 1 rfl)) rfl ⟨rfl, Ext.refl _⟩
  · exact ee_val hE rfl rfl rfl fun L v w D N I => ⟨rfl, Ext.refl _⟩
  · exact ee_val hE rfl rfl rfl fun L v w D N I => sl64 _ rfl rfl ⟨rfl, Ext.refl _⟩
  · exact ee_val hE rfl rfl rfl fun L v w D N I => gVer _ _ rfl rfl (calls_known (calls_eq_ (hv3 w (some ⟨k, 0, none⟩) _ (kk % 32) 32 ((blist KF).take (kk % 32)) (by rw [List.map_take]; exact (rd_B (R_k.ext (hx5.trans I.inv.keep.to_ext))).take_ _) hkL (by omega) (hr.ext (hx5.trans I.inv.keep.to_ext)) (rd_H (R_s.ext (hx5.trans I.inv.keep.to_ext))) (hT.ext (hx5.trans I.inv.keep.to_ext)) hV3) (ar3 (I.inv.val 2 (D 2 rfl)) (I.inv.val 3 (D 3 rfl)) (I.inv.val 4 (D 4 rfl)))))
  · exact ee_val hE rfl rfl rfl fun L v w D N I => ⟨(I.inv.val 5 (D 5 rfl)), Ext.refl _⟩
  intro L v10 W10 hL hIE
  have hI := hIE.inv
  have hxr := hI.keep.to_ext
  replace hx := hx.trans hxr
  have hs_17_17 : (v10 6) = .bool false := hI.val 6 (hL 6 (by decide))
  replace hx5 := hx5.trans hxr
  clear hI hIE hL hE L hxr
  simp only [putP, Act.put, List.setIfInBounds_toArray, List.set_cons_zero, List.set_cons_succ, hs_17_17]
  go_upto_region 18 with fail
  have hE : ∀ p ∈ ([] : List (Nat × (Value → World → Prop))), Lasts [] p.2 := fun p hp => by cases hp
  refine wp_region_text (InvE [] [] [] (fun j u => match j with | 0 => u = .bool true | 1 => u = .bool true | 2 => u = .bool true | 3 => u = .bool true | 4 => u = .bool true | 5 => u = .bool false | 6 => u = .bool true | 7 => u = .bool true | 8 => u = .bool true | 9 => u = .bool false | 10 => u = .bool true | 11 => u = .bool true | 12 => u = .bool true | 13 => u = .bool false | 14 => u = .bool true | 15 => u = .bool true | 16 => u = .bool true | 17 => u = .bool false | 18 => u = .bool true | 19 => u = .bool true | 20 => u = .bool true | _ => True) [] W10) plan_3_18 [(72, 0), (73, 1), (74, 2), (75, 3), (76, 4), (77, 5), (78, 6), (79, 7), (80, 8), (81, 9), (82, 10), (83, 11), (84, 12), (85, 13), (86, 14), (87, 15), (88, 16), (89, 17), (90, 18), (91, 19), (6, 20)] 92 rfl (by kernel_rfl) (InvE.start0 (Inv.start0 ⟨by simp, by simp, by simp, by simp⟩ (by simp))) ⟨?_, ?_, ?_, ?_, ?_, ?_, ?_, ?_, ?_, ?_, ?_, ?_, ?_, ?_, ?_, ?_, ?_, ?_, ?_, ?_, ?_, trivial⟩ ?_
  · exact ee_val hE rfl rfl rfl fun L v w D N I => ⟨rfl, Ext.refl _⟩
  · exact ee_val hE rfl rfl rfl fun L v w D N I => ⟨(I.inv.val 0 (D 0 rfl)), Ext.refl _⟩
  · exact ee_want hE rfl rfl rfl rfl (fun u h => h) fun L v w D N I => ⟨rfl, Ext.refl _⟩
  · exact ee_val hE rfl rfl rfl fun L v w D N I => give_pick_t _ _ _ rfl (I.inv.val 1 (D 1 rfl)) ⟨(I.inv.val 2 (D 2 rfl)), Ext.refl _⟩
  · exact ee_val hE rfl rfl rfl fun L v w D N I => ⟨(I.inv.val 3 (D 3 rfl)), Ext.refl _⟩
  · exact ee_want hE rfl rfl rfl rfl (fun u h => h) fun L v w D N I => ⟨rfl, Ext.refl _⟩
  · exact ee_want hE rfl rfl rfl rfl (fun u h => h) fun L v w D N I => give_not _ _ rfl (I.inv.val 5 (D 5 rfl)) ⟨rfl, Ext.refl _⟩
  · exact ee_val hE rfl rfl rfl fun L v w D N I => give_pick_t _ _ _ rfl (I.inv.val 4 (D 4 rfl)) ⟨(I.inv.val 6 (D 6 rfl)), Ext.refl _⟩
  · exact ee_val hE rfl rfl rfl fun L v w D N I => ⟨(I.inv.val 7 (D 7 rfl)), Ext.refl _⟩
  · exact ee_want hE rfl rfl rfl rfl (fun u h => h) fun L v w D N I => ⟨rfl, Ext.refl _⟩
  · exact ee_want hE rfl rfl rfl rfl (fun u h => h) fun L v w D N I => give_not _ _ rfl (I.inv.val 9 (D 9 rfl)) ⟨rfl, Ext.refl _⟩
  · exact ee_val hE rfl rfl rfl fun L v w D N I => give_pick_t _ _ _ rfl (I.inv.val 8 (D 8 rfl)) ⟨(I.inv.val 10 (D 10 rfl)), Ext.refl _⟩
  · exact ee_val hE rfl rfl rfl fun L v w D N I => ⟨(I.inv.val 11 (D 11 rfl)), Ext.refl _⟩
  · exact ee_want hE rfl rfl rfl rfl (fun u h => h) fun L v w D N I => ⟨rfl, Ext.refl _⟩
  · exact ee_want hE rfl rfl rfl rfl (fun u h => h) fun L v w D N I => give_not _ _ rfl (I.inv.val 13 (D 13 rfl)) ⟨rfl, Ext.refl _⟩
  · exact ee_val hE rfl rfl rfl fun L v w D N I => give_pick_t _ _ _ rfl (I.inv.val 12 (D 12 rfl)) ⟨(I.inv.val 14 (D 14 rfl)), Ext.refl _⟩
  · exact ee_val hE rfl rfl rfl fun L v w D N I => ⟨(I.inv.val 15 (D 15 rfl)), Ext.refl _⟩
  · exact ee_want hE rfl rfl rfl rfl (fun u h => h) fun L v w D N I => ⟨rfl, Ext.refl _⟩
  · exact ee_want hE rfl rfl rfl rfl (fun u h => h) fun L v w D N I => give_not _ _ rfl (I.inv.val 17 (D 17 rfl)) ⟨rfl, Ext.refl _⟩
  · exact ee_val hE rfl rfl rfl fun L v w D N I => give_pick_t _ _ _ rfl (I.inv.val 16 (D 16 rfl)) ⟨(I.inv.val 18 (D 18 rfl)), Ext.refl _⟩
  · exact ee_val hE rfl rfl rfl fun L v w D N I => ⟨(I.inv.val 19 (D 19 rfl)), Ext.refl _⟩
  intro L v11 W11 hL hIE
  have hI := hIE.inv
  have hxr := hI.keep.to_ext
  replace hx := hx.trans hxr
  have hs_6_18 : (v11 20) = .bool true := hI.val 20 (hL 20 (by decide))
  replace hx5 := hx5.trans hxr
  clear hI hIE hL hE L hxr
  simp only [putP, Act.put, List.setIfInBounds_toArray, List.set_cons_zero, List.set_cons_succ, hs_6_18]
  go_wp2
  go_ret
  exact ⟨rfl, hx⟩
end Go.Proofs.YtgeihelkkhjjaaaDoor
