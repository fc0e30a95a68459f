/-
  Texts of the lemmas below the claim, put together: Sam SgF SgV SgY.
-/
import Derived.Test.YtgeihelkkhjjaaaGreatDoorMKern
import Derived.Test.YtgeihelkkhjjaaaGreatDoorMDP
import Derived.Test.YtgeihelkkhjjaaaGreatDoorMGP
import Derived.BigQuiet
import Derived.Test.YtgeihelkkhjjaaaGreatDoorMSgH
import Derived.Test.YtgeihelkkhjjaaaGreatDoorMSgM
import Derived.Test.YtgeihelkkhjjaaaGreatDoorMRC
import Derived.StillTailTactics
import Derived.Test.YtgeihelkkhjjaaaGreatDoorMSgU
import Derived.Test.YtgeihelkkhjjaaaGreatDoorMArgs
import Derived.Test.YtgeihelkkhjjaaaGreatDoorMArga
set_option linter.unusedSimpArgs false
set_option linter.unusedVariables false
set_option maxRecDepth 20000
set_option maxHeartbeats 16000000
section
namespace Go.Proofs.YtgeihelkkhjjaaaGreatDoor
open Go.RowKit Go.Cv Go.Cv.Pr Go.Cv.Grp Go.Cv.Hash
theorem ex_final : sKey (sNum (qa5 qbb)) 0 = 215 ∧ sKey (sNum (qa5 qbb)) 31 = 26 ∧ (sSig (sNum (qa5 qbb)) (lf (qa5 qbb) 32) []).getD 0 0 = 229 ∧ (sSig (sNum (qa5 qbb)) (lf (qa5 qbb) 32) []).getD 63 0 = 11 ∧ sVer (qai (sKey (sNum (qa5 qbb)))) [1] (sSig (sNum (qa5 qbb)) (lf (qa5 qbb) 32) []) = false := by
 rw [exH, exSig, exK]
 have h0 := qdq (sKey (sNum exHl)) 0 (by decide)
 have h1 := qdq (sKey (sNum exHl)) 31 (by decide)
 rw [exK] at h0 h1
 exact ⟨h0.symm.trans qhe.1, h1.symm.trans qhe.2.1, qhe.2.2.1, qhe.2.2.2, exNot⟩
def qtn : List Plan := [⟨[], []⟩]
def qto : List Plan := [⟨[], []⟩, ⟨[0], [(5, 0)]⟩, ⟨[], []⟩, ⟨[0, 1, 2], [(6, 1), (1, 2)]⟩]
def qtp : List Plan := [⟨[], []⟩, ⟨[0], [(7, 0)]⟩, ⟨[], []⟩, ⟨[0, 1, 2], [(8, 1), (2, 2)]⟩]
def qtq : List Plan := [⟨[], []⟩, ⟨[], []⟩, ⟨[0, 1], [(9, 0), (10, 1)]⟩, ⟨[0, 1, 2], [(11, 2)]⟩]
def qtr : List Plan := [⟨[], []⟩, ⟨[], []⟩, ⟨[], []⟩, ⟨[0, 1, 2], [(12, 0), (13, 1), (14, 2)]⟩, ⟨[0, 1, 2, 3], [(15, 3)]⟩]
def qts : List Plan := [⟨[], []⟩, ⟨[0], [(16, 0)]⟩, ⟨[0, 1], [(17, 1)]⟩, ⟨[0, 1, 2], [(18, 2)]⟩, ⟨[0, 1, 2, 3], [(19, 3)]⟩, ⟨[0, 1, 2, 3, 4], [(19, 3), (20, 4)]⟩, ⟨[0, 1, 2, 3, 4, 5], [(19, 3), (21, 5)]⟩, ⟨[0, 1, 2, 3, 4, 5, 6], [(19, 3), (22, 6)]⟩, ⟨[0, 1, 2, 3, 4, 5, 6, 7], [(23, 7)]⟩, ⟨[0, 1, 2, 3, 4, 5, 6, 7, 8], [(24, 8)]⟩, ⟨[0, 1, 2, 3, 4, 5, 6, 7, 8, 9], [(24, 8), (25, 9)]⟩, ⟨[0, 1, 2, 3, 4, 5, 6, 7, 8, 9, 10], [(24, 8), (26, 10)]⟩, ⟨[0, 1, 2, 3, 4, 5, 6, 7, 8, 9, 10, 11], [(24, 8), (27, 11)]⟩, ⟨[0, 1, 2, 3, 4, 5, 6, 7, 8, 9, 10, 11, 12], [(28, 12)]⟩, ⟨[0, 1, 2, 3, 4, 5, 6, 7, 8, 9, 10, 11, 12, 13], [(29, 13)]⟩, ⟨[0, 1, 2, 3, 4, 5, 6, 7, 8, 9, 10, 11, 12, 13, 14], [(29, 13), (30, 14)]⟩, ⟨[0, 1, 2, 3, 4, 5, 6, 7, 8, 9, 10, 11, 12, 13, 14, 15], [(29, 13), (31, 15)]⟩, ⟨[0, 1, 2, 3, 4, 5, 6, 7, 8, 9, 10, 11, 12, 13, 14, 15, 16], [(29, 13), (32, 16)]⟩, ⟨[0, 1, 2, 3, 4, 5, 6, 7, 8, 9, 10, 11, 12, 13, 14, 15, 16, 17], [(33, 17)]⟩, ⟨[0, 1, 2, 3, 4, 5, 6, 7, 8, 9, 10, 11, 12, 13, 14, 15, 16, 17, 18], [(34, 18)]⟩, ⟨[0, 1, 2, 3, 4, 5, 6, 7, 8, 9, 10, 11, 12, 13, 14, 15, 16, 17, 18, 19], [(34, 18), (35, 19)]⟩, ⟨[0, 1, 2, 3, 4, 5, 6, 7, 8, 9, 10, 11, 12, 13, 14, 15, 16, 17, 18, 19, 20], [(36, 20)]⟩, ⟨[0, 1, 2, 3, 4, 5, 6, 7, 8, 9, 10, 11, 12, 13, 14, 15, 16, 17, 18, 19, 20, 21], [(37, 21)]⟩, ⟨[0, 1, 2, 3, 4, 5, 6, 7, 8, 9, 10, 11, 12, 13, 14, 15, 16, 17, 18, 19, 20, 21, 22], [(37, 21), (38, 22)]⟩, ⟨[0, 1, 2, 3, 4, 5, 6, 7, 8, 9, 10, 11, 12, 13, 14, 15, 16, 17, 18, 19, 20, 21, 22, 23], [(37, 21), (39, 23)]⟩, ⟨[0, 1, 2, 3, 4, 5, 6, 7, 8, 9, 10, 11, 12, 13, 14, 15, 16, 17, 18, 19, 20, 21, 22, 23, 24], [(40, 24)]⟩]
theorem qnz (w : World) (hT : Tab64 w) :
  Calls Tryz.prog 5 #[] w fun e w' => e = .returned (.bool true) ∧ Ext w w' := by
 obtain ⟨f1, f2, f3, f4, f5⟩ := ex_final
 have hpub : ∀ w', Ext w w' → Calls Tryz.prog 6 #[.agg (qab qbb)] w' fun e w2 => e = .returned (.agg (qab (sKey (sNum (qa5 qbb))))) ∧ Ext w' w2 := fun w' hx => qmm qbb w' (hT.ext hx)
 have hsig : ∀ w', Ext w w' → Calls Tryz.prog 7 #[.agg (qab qbb), .slice none 0 0] w' fun e w2 => e = .returned (h64 (sSig (sNum (qa5 qbb)) (lf (qa5 qbb) 32) [])) ∧ Ext w' w2 := fun w' hx => qml qbb none 0 0 [] w' rfl (Nat.le_refl _) Rd.nil_ (by decide) (hT.ext hx)
 have f6 : sVer (qai (sKey (sNum (qa5 qbb)))) [] (sSig (sNum (qa5 qbb)) (lf (qa5 qbb) 32) []) = true := sVer_sig _ _ _
 have hl64 : (sSig (sNum (qa5 qbb)) (lf (qa5 qbb) 32) []).length = 64 := qi8 _ _ _
 have hlo : V (lf (sSig (sNum (qa5 qbb)) (lf (qa5 qbb) 32) []) 32) < ordN := sSig_low _ _ _
 have hP : decP (lf (qai (sKey (sNum (qa5 qbb)))) 0) = some (Pt.mul (V (sNum (qa5 qbb))) B7) := by
  rw [qgt (qdq (sKey (sNum (qa5 qbb))))]
  unfold sKey
  exact qju _
 generalize Pt.mul (V (sNum (qa5 qbb))) B7 = PP at *
 generalize sSig (sNum (qa5 qbb)) (lf (qa5 qbb) 32) [] = SG at *
 generalize sKey (sNum (qa5 qbb)) = KF at *
 have hv1 : ∀ w' A A', Rd w' A ((qai KF).map bv) → Rd w' A' (SG.map bv) → Ext w w' → Calls Tryz.prog 11 #[.slice A 32 32, .slice none 0 0, .slice A' 64 64] w' fun e w2 => e = .returned (.bool true) ∧ Ext w' w2 := fun w' A A' h1 h2 hx => f6 ▸ qo8 PP A 32 (qai KF) none 0 0 [] A' 64 SG w' (qao _) (Nat.le_refl _) h1 rfl (Nat.le_refl _) Rd.nil_ hl64 (Nat.le_refl _) h2 (by decide) (hT.ext hx) hlo hP
 have hv2 : ∀ w' A B A', Rd w' A ((qai KF).map bv) → Rd w' B [.int .u8 1] → Rd w' A' (SG.map bv) → Ext w w' → Calls Tryz.prog 11 #[.slice A 32 32, .slice B 1 1, .slice A' 64 64] w' fun e w2 => e = .returned (.bool false) ∧ Ext w' w2 := fun w' A B A' h1 h3 h2 hx => f5 ▸ qo8 PP A 32 (qai KF) B 1 1 [1] A' 64 SG w' (qao _) (Nat.le_refl _) h1 rfl (Nat.le_refl _) h3 hl64 (Nat.le_refl _) h2 (by decide) (hT.ext hx) hlo hP
 have e1 : n8 (KF 0) = 215 := by rw [f1]; rfl
 have e2 : n8 (KF 31) = 26 := by rw [f2]; rfl
 have e3 : n8 (SG.getD 0 0) = 229 := by rw [f3]; rfl
 have e4 : n8 (SG.getD 63 0) = 11 := by rw [f4]; rfl
 clear f1 f2 f3 f4 f5 f6 hlo hP
 go_enter Tryz.func5, Tryz.ntmps5
 go_upto_region 0 with fail
 have hx : Ext w w := Ext.refl w
 have hE := hE0 []
 refine qac (InvE [] [] [] (fun j u => match j with | 0 => u = .bool false | _ => True) [] w) qtn [(0, 0)] 41 rfl (by kernel_rfl) (InvE.start0 (Inv.start0 ⟨by simp, by simp, by simp, by simp⟩ (by simp))) ⟨?_, trivial⟩ ?_
 ·exact eV hE fun L v w D N I => ⟨rfl, Ext.refl _⟩
 intro L v1 W1 hL hIE
 have hI := hIE.inv
 have hxr := hI.keep.to_ext
 replace hx := hx.trans hxr
 clear hI hIE hL hE L hxr
 simp only [putP, Act.put, zA, zB, zC]
 go_upto_region 1 with fail
 have hok : TrsOk [] W1.heap.size ([(tk (some 2) 0 22 (some 3) (sz 32) (fun u => u = .agg (qab (KF))))] : List Trk) := ⟨by simp [tk], by simp [tk], by simp [tk], by simp [tk]⟩
 have hE : ∀ p ∈ ([] : List (Nat × (Value → World → Prop))), qcb [22] p.2 := fun p hp => by cases hp
 refine qac (InvE [22] [] [] (fun j u => match j with | 0 => u = .agg (qab (qbb)) | 1 => u = .agg (qab (KF)) | _ => True) [(tk (some 2) 0 22 (some 3) (sz 32) (fun u => u = .agg (qab (KF))))] W1) qto [(5, 0), (6, 1), (1, 2)] 41 rfl (by kernel_rfl) (InvE.start0 (Inv.start0 hok (by simp))) ⟨?_, ?_, ?_, ?_, trivial⟩ ?_
 ·exact eV hE fun L v w D N I => gSeed _ _ rfl rfl (qag (qmp w))
 ·exact eV hE fun L v w D N I => gPub _ _ rfl rfl (qag (qal (hpub w (hx.trans I.inv.keep.to_ext)) (ar1 (I.inv.val 0 (D 0 rfl)))))
 ·exact qbz 0 hE rfl rfl rfl rfl rfl rfl hok fun L v w D I => al_B rfl fun c h => ⟨trivial, rfl, c, rfl, qa4 c h⟩
 ·exact qdd 0 2 hE rfl rfl rfl rfl rfl rfl rfl rfl hok fun L v w D I n cs hb hR ho => st_B hR (qaq ho) _ _ rfl hb (I.inv.val 1 (D 1 rfl)) fun _ c a b k => ⟨trivial, k, c, a, b⟩
 intro L v2 W2 hL hIE
 have hI := hIE.inv
 obtain ⟨k, hb_k, lo_k, R_k⟩ := hI.made 0 rfl (hL 2 (by decide)) (hL 3 (by decide))
 have hxr := hI.keep.to_ext
 replace hx := hx.trans hxr
 clear hI hIE hL hE L hok hxr
 simp only [putP, Act.put, zA, zB, zC, hb_k]
 go_upto_region 2 with fail
 have hok : TrsOk [] W2.heap.size ([(tk (some 2) 0 26 (some 3) (sz 64) (fun u => u = h64 (SG)))] : List Trk) := ⟨by simp [tk], by simp [tk], by simp [tk], by simp [tk]⟩
 have hE : ∀ p ∈ ([] : List (Nat × (Value → World → Prop))), qcb [26] p.2 := fun p hp => by cases hp
 refine qac (InvE [26] [] [] (fun j u => match j with | 0 => u = .agg (qab (qbb)) | 1 => u = h64 SG | _ => True) [(tk (some 2) 0 26 (some 3) (sz 64) (fun u => u = h64 (SG)))] W2) qtp [(7, 0), (8, 1), (2, 2)] 41 rfl (by kernel_rfl) (InvE.start0 (Inv.start0 hok (by simp))) ⟨?_, ?_, ?_, ?_, trivial⟩ ?_
 ·exact eV hE fun L v w D N I => gSeed _ _ rfl rfl (qag (qmp w))
 ·exact eV hE fun L v w D N I => gSig _ _ rfl rfl (qag (qal (hsig w (hx.trans I.inv.keep.to_ext)) (ar2 (I.inv.val 0 (D 0 rfl)) rfl)))
 ·exact qbz 0 hE rfl rfl rfl rfl rfl rfl hok fun L v w D I => al_H rfl fun c h => ⟨trivial, rfl, c, rfl, qa4 c h⟩
 ·exact qdd 0 2 hE rfl rfl rfl rfl rfl rfl rfl rfl hok fun L v w D I n cs hb hR ho => st_H hR (qaq ho) hl64 _ _ rfl hb (I.inv.val 1 (D 1 rfl)) fun _ c a b k => ⟨trivial, k, c, a, b⟩
 intro L v3 W3 hL hIE
 have hI := hIE.inv
 obtain ⟨s, hb_s, lo_s, R_s⟩ := hI.made 0 rfl (hL 2 (by decide)) (hL 3 (by decide))
 replace R_k := R_k.keep0 hI.keep
 have hxr := hI.keep.to_ext
 replace hx := hx.trans hxr
 clear hI hIE hL hE L hok hxr
 simp only [putP, Act.put, zA, zB, zC, hb_s]
 go_upto_region 3 with fail
 have hE := hE0 []
 refine qaf (InvE [] [] [] (fun j u => match j with | 0 => u = .slice (some ⟨k, 0, none⟩) 32 32 | 1 => u = .slice (some ⟨s, 0, none⟩) 64 64 | 2 => u = .bool true | 3 => u = .bool true | _ => True) [] W3) qtq [(9, 0), (10, 1), (11, 2), (3, 3)] 41 (by kernel_rfl) rfl (by kernel_rfl) (InvE.start (Inv.start ⟨by simp, by simp, by simp, by simp⟩ (by simp))) ⟨?_, ?_, ?_, ?_, trivial⟩ ?_
 ·exact eV hE fun L v w D N I => sl32 _ rfl rfl ⟨rfl, Ext.refl _⟩
 ·exact eV hE fun L v w D N I => sl64 _ rfl rfl ⟨rfl, Ext.refl _⟩
 ·exact eV hE fun L v w D N I => gVer _ _ rfl rfl (qag (qal (hv1 w _ _ (rd_B (R_k.keep0 I.inv.keep)) (rd_H (R_s.keep0 I.inv.keep)) (hx.trans I.inv.keep.to_ext)) (ar3 (I.inv.val 0 (D 0 rfl)) rfl (I.inv.val 1 (D 1 rfl)))))
 ·exact eV hE fun L v w D N I => ⟨(I.inv.val 2 (D 2 rfl)), Ext.refl _⟩
 intro L v4 W4 hL hIE
 have hI := hIE.inv
 replace R_k := R_k.keep0 hI.keep
 replace R_s := R_s.keep0 hI.keep
 have hxr := hI.keep.to_ext
 replace hx := hx.trans hxr
 have hs_3_3 : (v4 3) = .bool true := hI.val 3 (hL 3 (by decide))
 clear hI hIE hL hE L hxr
 simp only [putP, Act.put, zA, zB, zC, hs_3_3]
 go_upto_region 4 with fail
 have hE : ∀ p ∈ ([(1, slE 5 (fun g cs u => u = .slice (some ⟨g, 0, none⟩) 1 1 ∧ cs = [.int .u8 1]))] : List (Nat × (Value → World → Prop))), qcb [] p.2 := by
  simp only [zD, zE, zF, zG, zH]
  exact qcu rfl
 refine qaf (InvE [] [(1, slE 5 (fun g cs u => u = .slice (some ⟨g, 0, none⟩) 1 1 ∧ cs = [.int .u8 1]))] [] (fun j u => match j with | 0 => u = .slice (some ⟨k, 0, none⟩) 32 32 | 2 => u = .slice (some ⟨s, 0, none⟩) 64 64 | 3 => u = .bool false | 4 => u = .bool false | _ => True) [] W4) qtr [(12, 0), (13, 1), (14, 2), (15, 3), (4, 4)] 41 (by kernel_rfl) rfl (by kernel_rfl) (InvE.start (Inv.start ⟨by simp, by simp, by simp, by simp⟩ (by simp))) ⟨?_, ?_, ?_, ?_, ?_, trivial⟩ ?_
 ·exact eV hE fun L v w D N I => sl32 _ rfl rfl ⟨rfl, Ext.refl _⟩
 ·exact qig 0 hE rfl rfl rfl rfl (fun _ => trivial) fun L v w D N I => give_bsb rfl rfl ⟨⟨_, _, Row.alloc w [.int .u8 1] _, rfl, rfl⟩, qaa _ _⟩
 ·exact eV hE fun L v w D N I => sl64 _ rfl rfl ⟨rfl, Ext.refl _⟩
 ·exact eV hE fun L v w D N I => by obtain ⟨g, cs, hrg, e, hc⟩ := (I.at 0 rfl (D 1 rfl)); subst hc; exact gVer _ _ rfl rfl (qag (qal (hv2 w _ _ _ (rd_B (R_k.keep0 I.inv.keep)) (Rd.row hrg) (rd_H (R_s.keep0 I.inv.keep)) (hx.trans I.inv.keep.to_ext)) (ar3 (I.inv.val 0 (D 0 rfl)) e (I.inv.val 2 (D 2 rfl)))))
 ·exact eV hE fun L v w D N I => ⟨(I.inv.val 3 (D 3 rfl)), Ext.refl _⟩
 intro L v5 W5 hL hIE
 have hI := hIE.inv
 replace R_k := R_k.keep0 hI.keep
 replace R_s := R_s.keep0 hI.keep
 have hxr := hI.keep.to_ext
 replace hx := hx.trans hxr
 have hs_4_4 : (v5 4) = .bool false := hI.val 4 (hL 4 (by decide))
 clear hI hIE hL hE L hxr
 simp only [putP, Act.put, zA, zB, zC, hs_4_4]
 go_upto_region 5 with fail
 have hE := hE0 []
 refine qac (InvE [] [] [] (fun j u => match j with | 0 => u = .pointer (some ⟨k, 0 * 1, none⟩) | 1 => u = .int .u8 (n8 (KF 0)) | 2 => u = .bool true | 3 => u = .bool true | 4 => u = .pointer (some ⟨k, 31 * 1, none⟩) | 5 => u = .int .u8 (n8 (KF 31)) | 6 => u = .bool true | 7 => u = .bool true | 8 => u = .bool true | 9 => u = .pointer (some ⟨s, 0 * 1, none⟩) | 10 => u = .int .u8 (n8 (SG.getD 0 0)) | 11 => u = .bool true | 12 => u = .bool true | 13 => u = .bool true | 14 => u = .pointer (some ⟨s, 63 * 1, none⟩) | 15 => u = .int .u8 (n8 (SG.getD 63 0)) | 16 => u = .bool true | 17 => u = .bool true | 18 => u = .bool true | 19 => u = .bool true | 20 => u = .bool true | 21 => u = .bool true | 22 => u = .bool false | 23 => u = .bool true | 24 => u = .bool true | 25 => u = .bool true | _ => True) [] W5) qts [(16, 0), (17, 1), (18, 2), (19, 3), (20, 4), (21, 5), (22, 6), (23, 7), (24, 8), (25, 9), (26, 10), (27, 11), (28, 12), (29, 13), (30, 14), (31, 15), (32, 16), (33, 17), (34, 18), (35, 19), (36, 20), (37, 21), (38, 22), (39, 23), (40, 24), (0, 25)] 41 rfl (by kernel_rfl) (InvE.start0 (Inv.start0 ⟨by simp, by simp, by simp, by simp⟩ (by simp))) ⟨?_, ?_, ?_, ?_, ?_, ?_, ?_, ?_, ?_, ?_, ?_, ?_, ?_, ?_, ?_, ?_, ?_, ?_, ?_, ?_, ?_, ?_, ?_, ?_, ?_, ?_, trivial⟩ ?_
 ·exact eV hE fun L v w D N I => qa1 _ _ _ _ rfl k 0 1 32 .i64 rfl rfl u22 (by decide) i5_ ⟨rfl, Ext.refl _⟩
 ·exact eV hE fun L v w D N I => qjq (R_k.keep0 I.inv.keep) (m := 0) (by decide) _ rfl (I.inv.val 0 (D 0 rfl)) ldK
 ·exact eV hE fun L v w D N I => qq8 _ _ _ _ _ rfl (I.inv.val 1 (D 1 rfl)) rfl e1 ⟨rfl, Ext.refl _⟩
 ·exact eV hE fun L v w D N I => ⟨(I.inv.val 2 (D 2 rfl)), Ext.refl _⟩
 ·exact qa2 hE rfl rfl rfl rfl (fun u h => h) fun L v w D N I => qa1 _ _ _ _ rfl k 31 1 32 .i64 rfl rfl u22 (by decide) i5_ ⟨rfl, Ext.refl _⟩
 ·exact qa2 hE rfl rfl rfl rfl (fun u h => h) fun L v w D N I => qjq (R_k.keep0 I.inv.keep) (m := 31) (by decide) _ rfl (I.inv.val 4 (D 4 rfl)) ldK
 ·exact qa2 hE rfl rfl rfl rfl (fun u h => h) fun L v w D N I => qq8 _ _ _ _ _ rfl (I.inv.val 5 (D 5 rfl)) rfl e2 ⟨rfl, Ext.refl _⟩
 ·exact eV hE fun L v w D N I => qbt _ _ _ rfl (I.inv.val 3 (D 3 rfl)) ⟨(I.inv.val 6 (D 6 rfl)), Ext.refl _⟩
 ·exact eV hE fun L v w D N I => ⟨(I.inv.val 7 (D 7 rfl)), Ext.refl _⟩
 ·exact qa2 hE rfl rfl rfl rfl (fun u h => h) fun L v w D N I => qa1 _ _ _ _ rfl s 0 1 64 .i64 rfl rfl u64a (by decide) i5_ ⟨rfl, Ext.refl _⟩
 ·exact qa2 hE rfl rfl rfl rfl (fun u h => h) fun L v w D N I => ld_Hb 0 (by decide) hl64 (R_s.keep0 I.inv.keep) _ rfl (I.inv.val 9 (D 9 rfl)) ldK
 ·exact qa2 hE rfl rfl rfl rfl (fun u h => h) fun L v w D N I => qq8 _ _ _ _ _ rfl (I.inv.val 10 (D 10 rfl)) rfl e3 ⟨rfl, Ext.refl _⟩
 ·exact eV hE fun L v w D N I => qbt _ _ _ rfl (I.inv.val 8 (D 8 rfl)) ⟨(I.inv.val 11 (D 11 rfl)), Ext.refl _⟩
 ·exact eV hE fun L v w D N I => ⟨(I.inv.val 12 (D 12 rfl)), Ext.refl _⟩
 ·exact qa2 hE rfl rfl rfl rfl (fun u h => h) fun L v w D N I => qa1 _ _ _ _ rfl s 63 1 64 .i64 rfl rfl u64a (by decide) i5_ ⟨rfl, Ext.refl _⟩
 ·exact qa2 hE rfl rfl rfl rfl (fun u h => h) fun L v w D N I => ld_Hb 63 (by decide) hl64 (R_s.keep0 I.inv.keep) _ rfl (I.inv.val 14 (D 14 rfl)) ldK
 ·exact qa2 hE rfl rfl rfl rfl (fun u h => h) fun L v w D N I => qq8 _ _ _ _ _ rfl (I.inv.val 15 (D 15 rfl)) rfl e4 ⟨rfl, Ext.refl _⟩
 ·exact eV hE fun L v w D N I => qbt _ _ _ rfl (I.inv.val 13 (D 13 rfl)) ⟨(I.inv.val 16 (D 16 rfl)), Ext.refl _⟩
 ·exact eV hE fun L v w D N I => ⟨(I.inv.val 17 (D 17 rfl)), Ext.refl _⟩
 ·exact qa2 hE rfl rfl rfl rfl (fun u h => h) fun L v w D N I => ⟨rfl, Ext.refl _⟩
 ·exact eV hE fun L v w D N I => qbt _ _ _ rfl (I.inv.val 18 (D 18 rfl)) ⟨(I.inv.val 19 (D 19 rfl)), Ext.refl _⟩
 ·exact eV hE fun L v w D N I => ⟨(I.inv.val 20 (D 20 rfl)), Ext.refl _⟩
 ·exact qa2 hE rfl rfl rfl rfl (fun u h => h) fun L v w D N I => ⟨rfl, Ext.refl _⟩
 ·exact qa2 hE rfl rfl rfl rfl (fun u h => h) fun L v w D N I => qnf _ _ rfl (I.inv.val 22 (D 22 rfl)) ⟨rfl, Ext.refl _⟩
 ·exact eV hE fun L v w D N I => qbt _ _ _ rfl (I.inv.val 21 (D 21 rfl)) ⟨(I.inv.val 23 (D 23 rfl)), Ext.refl _⟩
 ·exact eV hE fun L v w D N I => ⟨(I.inv.val 24 (D 24 rfl)), Ext.refl _⟩
 intro L v6 W6 hL hIE
 have hI := hIE.inv
 replace R_k := R_k.keep0 hI.keep
 replace R_s := R_s.keep0 hI.keep
 have hxr := hI.keep.to_ext
 replace hx := hx.trans hxr
 have hs_0_5 : (v6 25) = .bool true := hI.val 25 (hL 25 (by decide))
 clear hI hIE hL hE L hxr
 simp only [putP, Act.put, zA, zB, zC, hs_0_5]
 go_wp2
 go_ret
 exact ⟨rfl, hx⟩
end Go.Proofs.YtgeihelkkhjjaaaGreatDoor
end
section
namespace Go.Proofs.YtgeihelkkhjjaaaGreatDoor
open Go.RowKit Go.Cv Go.Cv.Pr Go.Cv.Grp Go.Cv.Hash
section
variable {w : World} {o : Oper} {ev : Operand → Value} {R : Value → World → Prop} {A : Option Addr} {n m c : Nat}
theorem slSn (p q : Operand) (ho : o.op = .slice 23 p none (some q) none) (hx : ev p = .slice A m c) (hq : ev q = .int .i64 (n : Int)) (h1 : n ≤ c) (h : R (.slice A n c) w) : qak Tryz.prog R ((execOp ev o).run Tryz.prog w) := by
 have hcI : (n : Int) ≤ (c : Int) := by omega
 unfold execOp
 simp only [ho, hx, Option.map_none, Option.map_some, hq]
 go_simp
 exact h
theorem give_ixS {ad : Addr} (p q : Operand) (ho : o.op = .indexAddr 23 p q) (hx : ev p = .slice (some ad) m c) (hq : ev q = .int .i64 (n : Int)) (h1 : n < m) (h : R (.pointer (some (ad.add n))) w) : qak Tryz.prog R ((execOp ev o).run Tryz.prog w) := by
 have hcI : (n : Int) < (m : Int) := by omega
 have h0 : (0 : Int) ≤ (n : Int) := by omega
 have hi : (Tryz.prog.info? 5).map (·.size) = some 1 := i5_
 unfold execOp
 cases hz : Tryz.prog.info? 5 with
 | none => simp [hz] at hi
 | some i =>
  have hs : i.size = 1 := by simpa [hz] using hi
  simp [ho, Instr.indexAt, hx, hq, asIntOf, run_underlying Tryz.underlying23, Go.sizeOf, typeInfo, hz, hs, hcI, h0, h1]
  exact h
theorem ld_cell {ad : Addr} {v : Value} (p : Operand) (ho : o.op = .load 5 p) (hx : ev p = .pointer (some ad)) (hv : w.cell? ad = some v) (h : ∀ u, u = v → R u w) : qak Tryz.prog R ((execOp ev o).run Tryz.prog w) := by
 have hagg : (isAgg 5).run Tryz.prog w = .ok false w := by
  unfold isAgg
  rw [Sem.run_bind, run_underlying u5_ w]
  rfl
 unfold execOp
 simp only [ho, hx, Instr.loadAt, Instr.sureAddr, loadVar, Sem.run_bind, Sem.run_pure, Result.andThen_ok, hagg]
 simp [hv]
 exact h _ rfl
theorem gSame : GC 8 := gcOf Tryz.func8 (by kernel_rfl) (by kernel_rfl)
theorem gRPub : GC 9 := gcOf Tryz.func9 (by kernel_rfl) (by kernel_rfl)
theorem gRSig : GC 10 := gcOf Tryz.func10 (by kernel_rfl) (by kernel_rfl)
end
theorem qhn (A : Option Addr) (n c : Nat) (l : List UInt8) (B : Option Addr) (m d : Nat) (w : World) (hl : l.length = n) (hm : l.length = m) (hr : Rd w A (l.map bv)) (hr2 : Rd w B (l.map bv)) (bnd : n ≤ 5000000) :
  Calls Tryz.prog 8 #[.slice A n c, .slice B m d] w fun e w' => e = .returned (.bool true) ∧ Ext w w' := by
 have h := qmr A n c l B m d l w hl hr hm hr2 bnd
 rwa [decide_eq_true rfl] at h
def qv3 : List Plan := [⟨[], []⟩, ⟨[], []⟩]
def qv4 : List Plan := [⟨[], []⟩, ⟨[0], [(12, 0)]⟩]
def qv6 : List Plan := [⟨[], []⟩, ⟨[0], [(19, 0)]⟩, ⟨[], []⟩, ⟨[0, 1, 2], [(20, 1), (7, 2)]⟩]
def qv7 : List Plan := [⟨[], []⟩, ⟨[], []⟩, ⟨[], []⟩, ⟨[2], [(23, 2)]⟩, ⟨[1, 2, 3], [(22, 1), (24, 3)]⟩, ⟨[0, 1, 2, 3, 4], [(21, 0), (25, 4)]⟩, ⟨[], []⟩, ⟨[0, 1, 2, 3, 4, 5, 6], [(26, 5), (8, 6)]⟩]
def qv8 : List Plan := [⟨[], []⟩, ⟨[], []⟩, ⟨[1], [(28, 1)]⟩, ⟨[0, 1, 2], [(27, 0), (29, 2)]⟩, ⟨[0, 1, 2, 3], [(30, 3)]⟩]
def qv9 : List Plan := [⟨[], []⟩, ⟨[], []⟩, ⟨[], []⟩, ⟨[1, 2], [(32, 1), (33, 2)]⟩, ⟨[0, 1, 2, 3], [(31, 0), (34, 3)]⟩, ⟨[0, 1, 2, 3, 4], [(35, 4)]⟩]
def qwa : List Plan := [⟨[], []⟩, ⟨[], []⟩, ⟨[1], [(37, 1)]⟩, ⟨[0, 1, 2], [(36, 0), (38, 2)]⟩, ⟨[], []⟩, ⟨[0, 1, 2, 3, 4], [(39, 3), (40, 4)]⟩, ⟨[0, 1, 2, 3, 4, 5], [(41, 5)]⟩, ⟨[0, 1, 2, 3, 4, 5, 6], [(42, 6)]⟩, ⟨[0, 1, 2, 3, 4, 5, 6], [(42, 6)]⟩, ⟨[0, 1, 2, 3, 4, 5, 6, 8], [(42, 6), (44, 8)]⟩, ⟨[0, 1, 2, 3, 4, 5, 6, 7, 8, 9], [(42, 6), (43, 7), (45, 9)]⟩, ⟨[0, 1, 2, 3, 4, 5, 6, 7, 8, 9, 10], [(42, 6), (46, 10)]⟩, ⟨[0, 1, 2, 3, 4, 5, 6, 7, 8, 9, 10, 11], [(42, 6), (47, 11)]⟩, ⟨[0, 1, 2, 3, 4, 5, 6, 7, 8, 9, 10, 11, 12], [(42, 6), (48, 12)]⟩, ⟨[0, 1, 2, 3, 4, 5, 6, 7, 8, 9, 10, 11, 12, 13], [(49, 13)]⟩]
def qv5 : List Plan := [⟨[], []⟩, ⟨[0], [(50, 0)]⟩, ⟨[0, 1], [(51, 1)]⟩, ⟨[0, 1, 2], [(51, 1), (52, 2)]⟩, ⟨[0, 1, 2, 3], [(53, 3)]⟩, ⟨[0, 1, 2, 3, 4], [(54, 4)]⟩, ⟨[0, 1, 2, 3, 4, 5], [(54, 4), (55, 5)]⟩, ⟨[0, 1, 2, 3, 4, 5, 6], [(56, 6)]⟩, ⟨[0, 1, 2, 3, 4, 5, 6, 7], [(57, 7)]⟩, ⟨[0, 1, 2, 3, 4, 5, 6, 7, 8], [(57, 7), (58, 8)]⟩, ⟨[0, 1, 2, 3, 4, 5, 6, 7, 8, 9], [(59, 9)]⟩]
theorem qpg (f : Nat → UInt8) (A : Option Addr) (n c : Nat) (l : List UInt8) (w : World) (hl : l.length = n) (hc : n ≤ c) (hr : Rd w A (l.map bv)) (bnd : n ≤ 4800000) (hT : Tab64 w) :
  Calls Tryz.prog 3 #[.agg (qab f), .slice A n c] w fun e w' => e = .returned (.bool true) ∧ Ext w w' := by
 have hpub : ∀ w', Ext w w' → Calls Tryz.prog 6 #[.agg (qab f)] w' fun e w2 => e = .returned (.agg (qab (sKey (sNum (qa5 f))))) ∧ Ext w' w2 := fun w' hx => qmm f w' (hT.ext hx)
 have hsig : ∀ w' (A1 : Option Addr) (c1 : Nat), Ext w w' → n ≤ c1 → Rd w' A1 (l.map bv) → Calls Tryz.prog 7 #[.agg (qab f), .slice A1 n c1] w' fun e w2 => e = .returned (h64 (sSig (sNum (qa5 f)) (lf (qa5 f) 32) l)) ∧ Ext w' w2 := fun w' A1 c1 hx hc h => qml f A1 n c1 l w' hl hc h (by omega) (hT.ext hx)
 have hrp : ∀ w' (A1 : Option Addr), Rd w' A1 ((qai f).map bv) → Calls Tryz.prog 9 #[.slice A1 32 32] w' fun e w2 => ∃ u, e = .returned u ∧ slE 22 (fun g cs u => u = .slice (some ⟨g, 0, none⟩) 32 32 ∧ Value.agg cs.toArray = .agg (qab (sKey (sNum (qa5 f))))) u w2 ∧ Ext w' w2 := fun w' A1 h => (qlk A1 32 f w' (Nat.le_refl _) h).mono fun e w2 ⟨m, he, ⟨cs, h1, h2⟩, hx⟩ => ⟨_, he, ⟨m, cs, h1, rfl, h2⟩, hx⟩
 have hrs : ∀ w' (A1 : Option Addr), Rd w' A1 ((qai f).map bv) → Ext w w' → Calls Tryz.prog 10 #[.slice A1 32 32, .slice A n c] w' fun e w2 => ∃ u, e = .returned u ∧ (∃ D q, u = .slice D 64 q ∧ Rd w2 D ((sSig (sNum (qa5 f)) (lf (qa5 f) 32) l).map bv)) ∧ Ext w' w2 := fun w' A1 h hx => (qpr A1 32 f A n c l w' (Nat.le_refl _) h hl (hr.ext hx) (by omega)).mono fun e w2 ⟨D, q, he, h1, hx⟩ => ⟨_, he, ⟨D, q, rfl, h1⟩, hx⟩
 have hl64 : (sSig (sNum (qa5 f)) (lf (qa5 f) 32) l).length = 64 := qi8 _ _ _
 generalize sSig (sNum (qa5 f)) (lf (qa5 f) 32) l = SG at *
 generalize sKey (sNum (qa5 f)) = KF at *
 have hsmK : ∀ w' A1 A2, Rd w' A1 ((qai KF).map bv) → Rd w' A2 ((qai KF).map bv) → Calls Tryz.prog 8 #[.slice A1 32 32, .slice A2 32 32] w' fun e w2 => e = .returned (.bool true) ∧ Ext w' w2 := fun w' A1 A2 h1 h2 => qhn A1 32 32 _ A2 32 32 w' (qao _) (qao _) h1 h2 (by decide)
 have hsmS : ∀ w' A1 A2 c1 c2, Rd w' A1 (SG.map bv) → Rd w' A2 (SG.map bv) → Calls Tryz.prog 8 #[.slice A1 64 c1, .slice A2 64 c2] w' fun e w2 => e = .returned (.bool true) ∧ Ext w' w2 := fun w' A1 A2 c1 c2 h1 h2 => qhn A1 64 c1 _ A2 64 c2 w' hl64 hl64 h1 h2 (by decide)
 have hsmT : ∀ w' A1 c1, Rd w' A1 (l.map bv) → Ext w w' → Calls Tryz.prog 8 #[.slice A1 n c1, .slice A n c] w' fun e w2 => e = .returned (.bool true) ∧ Ext w' w2 := fun w' A1 c1 h1 hx => qhn A1 n c1 l A n c w' hl hl h1 (hr.ext hx) (by omega)
 go_enter Tryz.func3, Tryz.ntmps3
 go_upto_region 0 with fail
 have hx : Ext w w := Ext.refl w
 have hok : TrsOk [] w.heap.size ([(tk (some 0) 0 22 (none) (fun u => u = .agg (qab (f))) (fun _ => True))] : List Trk) := ⟨by simp [tk], by simp [tk], by simp [tk], by simp [tk]⟩
 have hE := hE0 []
 refine qac (InvE [] [] [] (fun j u => match j with | 1 => u = .bool false | _ => True) [(tk (some 0) 0 22 (none) (fun u => u = .agg (qab (f))) (fun _ => True))] w) qv3 [(2, 0), (4, 1)] 60 rfl (by kernel_rfl) (InvE.start0 (Inv.start0 hok (by simp))) ⟨?_, ?_, trivial⟩ ?_
 ·exact qbz 0 hE rfl rfl rfl rfl rfl rfl hok fun L v w D I => qbf (qab (f)).toList rfl rfl ⟨trivial, rfl, _, rfl, rfl⟩
 ·exact eV hE fun L v w D N I => ⟨rfl, Ext.refl _⟩
 intro L v1 W1 hL hIE
 have hI := hIE.inv
 obtain ⟨b, hb_b, lo_b, R_b⟩ := hI.made0 0 rfl (hL 0 (by decide))
 have hxr := hI.keep.to_ext
 replace hx := hx.trans hxr
 clear hI hIE hL hE L hok hxr
 simp only [putP, Act.put, zA, zB, zC, hb_b]
 go_upto_region 1 with fail
 have hE := hE0 []
 refine qac (InvE [] [] [] (fun j u => match j with | 0 => u = .bool true | 1 => u = .bool true | _ => True) [] W1) qv4 [(12, 0), (5, 1)] 60 rfl (by kernel_rfl) (InvE.start0 (Inv.start0 ⟨by simp, by simp, by simp, by simp⟩ (by simp))) ⟨?_, ?_, trivial⟩ ?_
 ·exact eV hE fun L v w D N I => gShown _ _ rfl rfl (qag (qnz w (hT.ext (hx.trans I.inv.keep.to_ext))))
 ·exact eV hE fun L v w D N I => ⟨(I.inv.val 0 (D 0 rfl)), Ext.refl _⟩
 intro L v2 W2 hL hIE
 have hI := hIE.inv
 replace R_b := R_b.keep0 hI.keep
 have hxr := hI.keep.to_ext
 replace hx := hx.trans hxr
 have hs_5_1 : (v2 1) = .bool true := hI.val 1 (hL 1 (by decide))
 clear hI hIE hL hE L hxr
 simp only [putP, Act.put, zA, zB, zC, hs_5_1]
 go_upto_region 5 with (first
  | (at_builtin; refine qep rfl (.tmp 13) (.tmp 14) 23 5 rfl qbi rfl A n c l rfl hl (hr.ext hx) (by omega) ?_; intro A1 c1 w7 ho7 hc7 hm7 hr7 hx7; have hs7 : (w7.alloc (.cells #[.int .u8 7] 5)).ownsRow W2.heap.size 5 1 _ n (l.map bv) := qa6 ho7 (qaa _ _); have hxb := hx7.trans (qaa w7 (.cells #[.int .u8 7] 5)); have hr0 := qbg w7 (bv 7) 5)
  | (at_builtin; refine qba rfl (.tmp 16) (.tmp 17) 23 5 rfl qbi W2.heap.size _ n l rfl hs7 (some ⟨w7.heap.size, 0, none⟩) 1 1 [7] rfl rfl hr0 (by omega) hxb.size ?_; intro A2 c2 w8 ho8 hc8 hm8 hr8 hx8))
 have hx5 : Ext W2 w8 := hx8 W2 hxb (Nat.le_refl _)
 obtain ⟨ad2, e2, hcell⟩ := hr8.at_ (k := n) (by simp [hl])
 subst e2
 replace hcell : w8.cell? (ad2.add n) = some (.int .u8 (n8 7)) := by
  rw [hcell]; simp [hl]
 have hrT : Rd w8 (some ad2) (l.map bv) := by
  have h := hr8.tk n
  rwa [List.map_append, List.take_left' (by simp [hl])] at h
 replace R_b := R_b.ext hx5
 replace hx := hx.trans hx5
 clear hx5 hx8 hxb hs7 ho7 hr7 hr0 ho8 hr8 hx7
 have hok : TrsOk [] w8.heap.size ([(tk (some 2) 0 22 (some 3) (sz 32) (fun u => u = .agg (qab (KF))))] : List Trk) := ⟨by simp [tk], by simp [tk], by simp [tk], by simp [tk]⟩
 have hE : ∀ p ∈ ([] : List (Nat × (Value → World → Prop))), qcb [22] p.2 := fun p hp => by cases hp
 refine qac (InvE [22] [] [] (fun j u => match j with | 0 => u = .agg (qab (f)) | 1 => u = .agg (qab (KF)) | _ => True) [(tk (some 2) 0 22 (some 3) (sz 32) (fun u => u = .agg (qab (KF))))] w8) qv6 [(19, 0), (20, 1), (7, 2)] 60 rfl (by kernel_rfl) (InvE.start0 (Inv.start0 hok (by simp))) ⟨?_, ?_, ?_, ?_, trivial⟩ ?_
 ·exact eV hE fun L v w D N I => ld_B (R_b.keep0 I.inv.keep) _ rfl rfl ldK
 ·exact eV hE fun L v w D N I => gPub _ _ rfl rfl (qag (qal (hpub w (hx.trans I.inv.keep.to_ext)) (ar1 (I.inv.val 0 (D 0 rfl)))))
 ·exact qbz 0 hE rfl rfl rfl rfl rfl rfl hok fun L v w D I => al_B rfl fun c h => ⟨trivial, rfl, c, rfl, qa4 c h⟩
 ·exact qdd 0 2 hE rfl rfl rfl rfl rfl rfl rfl rfl hok fun L v w D I n cs hb hR ho => st_B hR (qaq ho) _ _ rfl hb (I.inv.val 1 (D 1 rfl)) fun _ c a b k => ⟨trivial, k, c, a, b⟩
 intro L v3 W3 hL hIE
 have hI := hIE.inv
 obtain ⟨k, hb_k, lo_k, R_k⟩ := hI.made 0 rfl (hL 2 (by decide)) (hL 3 (by decide))
 replace R_b := R_b.keep0 hI.keep
 have hxr := hI.keep.to_ext
 replace hx := hx.trans hxr
 replace hrT := hrT.ext hxr
 replace hcell := hxr.cell hcell
 clear hI hIE hL hE L hok hxr
 simp only [putP, Act.put, zA, zB, zC, hb_k]
 go_upto_region 6 with fail
 have hok : TrsOk [] W3.heap.size ([(tk (some 6) 0 26 (some 7) (sz 64) (fun u => u = h64 (SG)))] : List Trk) := ⟨by simp [tk], by simp [tk], by simp [tk], by simp [tk]⟩
 have hE : ∀ p ∈ ([] : List (Nat × (Value → World → Prop))), qcb [26] p.2 := fun p hp => by cases hp
 refine qaf (InvE [26] [] [] (fun j u => match j with | 0 => u = .agg (qab (f)) | 1 => u = .slice (some ad2) (n + 1) c2 | 2 => u = .slice A n c | 3 => u = .int .i64 (n : Int) | 4 => u = .slice (some ad2) n c2 | 5 => u = h64 SG | _ => True) [(tk (some 6) 0 26 (some 7) (sz 64) (fun u => u = h64 (SG)))] W3) qv7 [(21, 0), (22, 1), (23, 2), (24, 3), (25, 4), (26, 5), (8, 6)] 60 (by kernel_rfl) rfl (by kernel_rfl) (InvE.start (Inv.start hok (by simp))) ⟨?_, ?_, ?_, ?_, ?_, ?_, ?_, ?_, trivial⟩ ?_
 ·exact eV hE fun L v w D N I => ld_B (R_b.keep0 I.inv.keep) _ rfl rfl ldK
 ·exact eV hE fun L v w D N I => ⟨rfl, Ext.refl _⟩
 ·exact eV hE fun L v w D N I => ⟨rfl, Ext.refl _⟩
 ·exact eV hE fun L v w D N I => qgd _ rfl (I.inv.val 2 (D 2 rfl)) ⟨rfl, Ext.refl _⟩
 ·exact eV hE fun L v w D N I => slSn _ _ rfl (I.inv.val 1 (D 1 rfl)) (I.inv.val 3 (D 3 rfl)) (by omega) ⟨rfl, Ext.refl _⟩
 ·exact eV hE fun L v w D N I => gSig _ _ rfl rfl (qag (qal (hsig w _ c2 (hx.trans I.inv.keep.to_ext) (by omega) (hrT.ext I.inv.keep.to_ext)) (ar2 (I.inv.val 0 (D 0 rfl)) (I.inv.val 4 (D 4 rfl)))))
 ·exact qbz 0 hE rfl rfl rfl rfl rfl rfl hok fun L v w D I => al_H rfl fun c h => ⟨trivial, rfl, c, rfl, qa4 c h⟩
 ·exact qdd 0 6 hE rfl rfl rfl rfl rfl rfl rfl rfl hok fun L v w D I n cs hb hR ho => st_H hR (qaq ho) hl64 _ _ rfl hb (I.inv.val 5 (D 5 rfl)) fun _ c a b k => ⟨trivial, k, c, a, b⟩
 intro L v4 W4 hL hIE
 have hI := hIE.inv
 obtain ⟨s, hb_s, lo_s, R_s⟩ := hI.made 0 rfl (hL 6 (by decide)) (hL 7 (by decide))
 replace R_b := R_b.keep0 hI.keep
 replace R_k := R_k.keep0 hI.keep
 have hxr := hI.keep.to_ext
 replace hx := hx.trans hxr
 replace hrT := hrT.ext hxr
 replace hcell := hxr.cell hcell
 clear hI hIE hL hE L hok hxr
 simp only [putP, Act.put, zA, zB, zC, hb_s]
 go_upto_region 7 with fail
 have hE : ∀ p ∈ ([(2, slE 22 (fun g cs u => u = .slice (some ⟨g, 0, none⟩) 32 32 ∧ Value.agg cs.toArray = .agg (qab KF)))] : List (Nat × (Value → World → Prop))), qcb [] p.2 := by
  simp only [zD, zE, zF, zG, zH]
  exact qcu rfl
 refine qaf (InvE [] [(2, slE 22 (fun g cs u => u = .slice (some ⟨g, 0, none⟩) 32 32 ∧ Value.agg cs.toArray = .agg (qab KF)))] [] (fun j u => match j with | 0 => u = .slice (some ⟨k, 0, none⟩) 32 32 | 1 => u = .slice (some ⟨b, 0, none⟩) 32 32 | 3 => u = .bool true | 4 => u = .bool true | _ => True) [] W4) qv8 [(27, 0), (28, 1), (29, 2), (30, 3), (9, 4)] 60 (by kernel_rfl) rfl (by kernel_rfl) (InvE.start (Inv.start ⟨by simp, by simp, by simp, by simp⟩ (by simp))) ⟨?_, ?_, ?_, ?_, ?_, trivial⟩ ?_
 ·exact eV hE fun L v w D N I => sl32 _ rfl rfl ⟨rfl, Ext.refl _⟩
 ·exact eV hE fun L v w D N I => sl32 _ rfl rfl ⟨rfl, Ext.refl _⟩
 ·exact qig 0 hE rfl rfl rfl rfl (fun _ => trivial) fun L v w D N I => gRPub _ _ rfl rfl (qal (hrp w _ (rd_B (R_b.keep0 I.inv.keep))) (ar1 (I.inv.val 1 (D 1 rfl))))
 ·exact eV hE fun L v w D N I => by obtain ⟨g, cs, hrg, e, hc⟩ := (I.at 0 rfl (D 2 rfl)); exact gSame _ _ rfl rfl (qag (qal (hsmK w _ _ (rd_B (R_k.keep0 I.inv.keep)) (rd_B ⟨cs, hrg, hc⟩)) (ar2 (I.inv.val 0 (D 0 rfl)) e)))
 ·exact eV hE fun L v w D N I => ⟨(I.inv.val 3 (D 3 rfl)), Ext.refl _⟩
 intro L v5 W5 hL hIE
 have hI := hIE.inv
 replace R_b := R_b.keep0 hI.keep
 replace R_k := R_k.keep0 hI.keep
 replace R_s := R_s.keep0 hI.keep
 have hxr := hI.keep.to_ext
 replace hx := hx.trans hxr
 have hs_9_7 : (v5 4) = .bool true := hI.val 4 (hL 4 (by decide))
 replace hrT := hrT.ext hxr
 replace hcell := hxr.cell hcell
 clear hI hIE hL hE L hxr
 simp only [putP, Act.put, zA, zB, zC, hs_9_7]
 go_upto_region 8 with fail
 have hE : ∀ p ∈ ([(3, fun u w => ∃ D q, u = .slice D 64 q ∧ Rd w D (SG.map bv))] : List (Nat × (Value → World → Prop))), qcb [] p.2 := by
  simp only [zD, zE, zF, zG, zH]
  exact ⟨fun u w w1 h hx => (by obtain ⟨D, q, e, hr⟩ := h; exact ⟨D, q, e, hr.ext hx⟩), fun u w w1 n T cs h hr hT => (by cases hT)⟩
 refine qaf (InvE [] [(3, fun u w => ∃ D q, u = .slice D 64 q ∧ Rd w D (SG.map bv))] [] (fun j u => match j with | 0 => u = .slice (some ⟨s, 0, none⟩) 64 64 | 1 => u = .slice (some ⟨b, 0, none⟩) 32 32 | 2 => u = .slice A n c | 4 => u = .bool true | 5 => u = .bool true | _ => True) [] W5) qv9 [(31, 0), (32, 1), (33, 2), (34, 3), (35, 4), (10, 5)] 60 (by kernel_rfl) rfl (by kernel_rfl) (InvE.start (Inv.start ⟨by simp, by simp, by simp, by simp⟩ (by simp))) ⟨?_, ?_, ?_, ?_, ?_, ?_, trivial⟩ ?_
 ·exact eV hE fun L v w D N I => sl64 _ rfl rfl ⟨rfl, Ext.refl _⟩
 ·exact eV hE fun L v w D N I => sl32 _ rfl rfl ⟨rfl, Ext.refl _⟩
 ·exact eV hE fun L v w D N I => ⟨rfl, Ext.refl _⟩
 ·exact qig 0 hE rfl rfl rfl rfl (fun _ => trivial) fun L v w D N I => gRSig _ _ rfl rfl (qal (hrs w _ (rd_B (R_b.keep0 I.inv.keep)) (hx.trans I.inv.keep.to_ext)) (ar2 (I.inv.val 1 (D 1 rfl)) (I.inv.val 2 (D 2 rfl))))
 ·exact eV hE fun L v w D N I => by obtain ⟨D9, q9, e, hrg⟩ := (I.at 0 rfl (D 3 rfl)); exact gSame _ _ rfl rfl (qag (qal (hsmS w _ _ 64 q9 (rd_H (R_s.keep0 I.inv.keep)) hrg) (ar2 (I.inv.val 0 (D 0 rfl)) e)))
 ·exact eV hE fun L v w D N I => ⟨(I.inv.val 4 (D 4 rfl)), Ext.refl _⟩
 intro L v6 W6 hL hIE
 have hI := hIE.inv
 replace R_b := R_b.keep0 hI.keep
 replace R_k := R_k.keep0 hI.keep
 replace R_s := R_s.keep0 hI.keep
 have hxr := hI.keep.to_ext
 replace hx := hx.trans hxr
 have hs_10_8 : (v6 5) = .bool true := hI.val 5 (hL 5 (by decide))
 replace hrT := hrT.ext hxr
 replace hcell := hxr.cell hcell
 clear hI hIE hL hE L hxr
 simp only [putP, Act.put, zA, zB, zC, hs_10_8]
 go_upto_region 9 with fail
 have hE := hE0 []
 refine qac (InvE [] [] [] (fun j u => match j with | 0 => u = .slice (some ad2) (n + 1) c2 | 1 => u = .slice A n c | 2 => u = .int .i64 (n : Int) | 3 => u = .slice (some ad2) n c2 | 4 => u = .slice A n c | 5 => u = .bool true | 6 => u = .bool true | 7 => u = .slice (some ad2) (n + 1) c2 | 8 => u = .slice A n c | 9 => u = .int .i64 (n : Int) | 10 => u = .pointer (some (ad2.add n)) | 11 => u = .int .u8 (n8 7) | 12 => u = .bool true | 13 => u = .bool true | 14 => u = .bool true | _ => True) [] W6) qwa [(36, 0), (37, 1), (38, 2), (39, 3), (40, 4), (41, 5), (42, 6), (43, 7), (44, 8), (45, 9), (46, 10), (47, 11), (48, 12), (49, 13), (11, 14)] 60 rfl (by kernel_rfl) (InvE.start0 (Inv.start0 ⟨by simp, by simp, by simp, by simp⟩ (by simp))) ⟨?_, ?_, ?_, ?_, ?_, ?_, ?_, ?_, ?_, ?_, ?_, ?_, ?_, ?_, ?_, trivial⟩ ?_
 ·exact eV hE fun L v w D N I => ⟨rfl, Ext.refl _⟩
 ·exact eV hE fun L v w D N I => ⟨rfl, Ext.refl _⟩
 ·exact eV hE fun L v w D N I => qgd _ rfl (I.inv.val 1 (D 1 rfl)) ⟨rfl, Ext.refl _⟩
 ·exact eV hE fun L v w D N I => slSn _ _ rfl (I.inv.val 0 (D 0 rfl)) (I.inv.val 2 (D 2 rfl)) (by omega) ⟨rfl, Ext.refl _⟩
 ·exact eV hE fun L v w D N I => ⟨rfl, Ext.refl _⟩
 ·exact eV hE fun L v w D N I => gSame _ _ rfl rfl (qag (qal (hsmT w _ c2 (hrT.ext I.inv.keep.to_ext) (hx.trans I.inv.keep.to_ext)) (ar2 (I.inv.val 3 (D 3 rfl)) (I.inv.val 4 (D 4 rfl)))))
 ·exact eV hE fun L v w D N I => ⟨(I.inv.val 5 (D 5 rfl)), Ext.refl _⟩
 ·exact qa2 hE rfl rfl rfl rfl (fun u h => h) fun L v w D N I => ⟨rfl, Ext.refl _⟩
 ·exact qa2 hE rfl rfl rfl rfl (fun u h => h) fun L v w D N I => ⟨rfl, Ext.refl _⟩
 ·exact qa2 hE rfl rfl rfl rfl (fun u h => h) fun L v w D N I => qgd _ rfl (I.inv.val 8 (D 8 rfl)) ⟨rfl, Ext.refl _⟩
 ·exact qa2 hE rfl rfl rfl rfl (fun u h => h) fun L v w D N I => give_ixS _ _ rfl (I.inv.val 7 (D 7 rfl)) (I.inv.val 9 (D 9 rfl)) (by omega) ⟨rfl, Ext.refl _⟩
 ·exact qa2 hE rfl rfl rfl rfl (fun u h => h) fun L v w D N I => ld_cell _ rfl (I.inv.val 10 (D 10 rfl)) (I.inv.keep.to_ext.cell hcell) ldK
 ·exact qa2 hE rfl rfl rfl rfl (fun u h => h) fun L v w D N I => qq8 _ _ _ _ _ rfl (I.inv.val 11 (D 11 rfl)) rfl rfl ⟨rfl, Ext.refl _⟩
 ·exact eV hE fun L v w D N I => qbt _ _ _ rfl (I.inv.val 6 (D 6 rfl)) ⟨(I.inv.val 12 (D 12 rfl)), Ext.refl _⟩
 ·exact eV hE fun L v w D N I => ⟨(I.inv.val 13 (D 13 rfl)), Ext.refl _⟩
 intro L v7 W7 hL hIE
 have hI := hIE.inv
 replace R_b := R_b.keep0 hI.keep
 replace R_k := R_k.keep0 hI.keep
 replace R_s := R_s.keep0 hI.keep
 have hxr := hI.keep.to_ext
 replace hx := hx.trans hxr
 have hs_11_9 : (v7 14) = .bool true := hI.val 14 (hL 14 (by decide))
 replace hrT := hrT.ext hxr
 replace hcell := hxr.cell hcell
 clear hI hIE hL hE L hxr
 simp only [putP, Act.put, zA, zB, zC, hs_11_9]
 go_upto_region 10 with fail
 have hE := hE0 []
 refine qac (InvE [] [] [] (fun j u => match j with | 0 => u = .bool true | 1 => u = .bool true | 2 => u = .bool true | 3 => u = .bool true | 4 => u = .bool true | 5 => u = .bool true | 6 => u = .bool true | 7 => u = .bool true | 8 => u = .bool true | 9 => u = .bool true | 10 => u = .bool true | _ => True) [] W7) qv5 [(50, 0), (51, 1), (52, 2), (53, 3), (54, 4), (55, 5), (56, 6), (57, 7), (58, 8), (59, 9), (4, 10)] 60 rfl (by kernel_rfl) (InvE.start0 (Inv.start0 ⟨by simp, by simp, by simp, by simp⟩ (by simp))) ⟨?_, ?_, ?_, ?_, ?_, ?_, ?_, ?_, ?_, ?_, ?_, trivial⟩ ?_
 ·exact eV hE fun L v w D N I => ⟨rfl, Ext.refl _⟩
 ·exact eV hE fun L v w D N I => ⟨(I.inv.val 0 (D 0 rfl)), Ext.refl _⟩
 ·exact qa2 hE rfl rfl rfl rfl (fun u h => h) fun L v w D N I => ⟨rfl, Ext.refl _⟩
 ·exact eV hE fun L v w D N I => qbt _ _ _ rfl (I.inv.val 1 (D 1 rfl)) ⟨(I.inv.val 2 (D 2 rfl)), Ext.refl _⟩
 ·exact eV hE fun L v w D N I => ⟨(I.inv.val 3 (D 3 rfl)), Ext.refl _⟩
 ·exact qa2 hE rfl rfl rfl rfl (fun u h => h) fun L v w D N I => ⟨rfl, Ext.refl _⟩
 ·exact eV hE fun L v w D N I => qbt _ _ _ rfl (I.inv.val 4 (D 4 rfl)) ⟨(I.inv.val 5 (D 5 rfl)), Ext.refl _⟩
 ·exact eV hE fun L v w D N I => ⟨(I.inv.val 6 (D 6 rfl)), Ext.refl _⟩
 ·exact qa2 hE rfl rfl rfl rfl (fun u h => h) fun L v w D N I => ⟨rfl, Ext.refl _⟩
 ·exact eV hE fun L v w D N I => qbt _ _ _ rfl (I.inv.val 7 (D 7 rfl)) ⟨(I.inv.val 8 (D 8 rfl)), Ext.refl _⟩
 ·exact eV hE fun L v w D N I => ⟨(I.inv.val 9 (D 9 rfl)), Ext.refl _⟩
 intro L v8 W8 hL hIE
 have hI := hIE.inv
 replace R_b := R_b.keep0 hI.keep
 replace R_k := R_k.keep0 hI.keep
 replace R_s := R_s.keep0 hI.keep
 have hxr := hI.keep.to_ext
 replace hx := hx.trans hxr
 have hs_4_10 : (v8 10) = .bool true := hI.val 10 (hL 10 (by decide))
 replace hrT := hrT.ext hxr
 replace hcell := hxr.cell hcell
 clear hI hIE hL hE L hxr
 simp only [putP, Act.put, zA, zB, zC, hs_4_10]
 go_wp2
 go_ret
 exact ⟨rfl, hx⟩
end Go.Proofs.YtgeihelkkhjjaaaGreatDoor
end
section
namespace Go.Proofs.YtgeihelkkhjjaaaGreatDoor
open Go.RowKit Go.Cv Go.Cv.Hash
theorem signs_w (f : Nat → UInt8) (A : Option Addr) (n cap : Nat) (l : List UInt8) (w : World) (hT : Tab64 w) (hl : ArgB w A n cap l) (bnd : cap ≤ 1048576) :
  Calls Tryz.prog 3 #[.agg (qab f), .slice A n cap] w fun e w' => e = .returned (.bool true) ∧ Ext w w' := by
 have hc := hl.le
 exact qpg f A n cap l w hl.len hc hl.rd (by omega) hT
end Go.Proofs.YtgeihelkkhjjaaaGreatDoor
end
