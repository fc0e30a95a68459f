/-
  Texts of the lemmas below the claim, put together: Sam SgF SgVf.
-/
import Derived.Test.YtgeihelkkhjjaaaGreatDoorKKern
import Derived.Test.YtgeihelkkhjjaaaGreatDoorKDP
import Derived.Test.YtgeihelkkhjjaaaGreatDoorKGP
import Derived.BigQuiet
import Derived.Test.YtgeihelkkhjjaaaGreatDoorKSgH
import Derived.Test.YtgeihelkkhjjaaaGreatDoorKSgM
import Derived.Test.YtgeihelkkhjjaaaGreatDoorKRC
import Derived.StillTailTactics
import Derived.Test.YtgeihelkkhjjaaaGreatDoorKSgI
import Derived.Test.YtgeihelkkhjjaaaGreatDoorKArgs
set_option linter.unusedSimpArgs false
set_option linter.unusedVariables false
set_option maxRecDepth 20000
set_option maxHeartbeats 16000000
section
namespace Go.Proofs.YtgeihelkkhjjaaaGreatDoor
open Go.RowKit Go.Cv Go.Cv.Pr Go.Cv.Grp Go.Cv.Hash
theorem ex_final : sKey (sNum (qbu qbe)) 0 = 215∧sKey (sNum (qbu qbe)) 31 = 26∧(sSig (sNum (qbu qbe)) (lf (qbu qbe) 32) []).getD 0 0 = 229∧(sSig (sNum (qbu qbe)) (lf (qbu qbe) 32) []).getD 63 0 = 11∧sVer (qao (sKey (sNum (qbu qbe)))) [1] (sSig (sNum (qbu qbe)) (lf (qbu qbe) 32) []) = false:=by
 rw [exH,exSig,exK]
 have h0:=qdz (sKey (sNum exHl)) 0 (by decide)
 have h1:=qdz (sKey (sNum exHl)) 31 (by decide)
 rw [exK] at h0 h1
 exact ⟨h0.symm.trans qhr.1,h1.symm.trans qhr.2.1,qhr.2.2.1,qhr.2.2.2,exNot⟩
def qts : List Plan:=[⟨[],[]⟩]
def qtt : List Plan:=[⟨[],[]⟩,⟨[0],[(5,0)]⟩,⟨[],[]⟩,⟨[0,1,2],[(6,1),(1,2)]⟩]
def qtu : List Plan:=[⟨[],[]⟩,⟨[0],[(7,0)]⟩,⟨[],[]⟩,⟨[0,1,2],[(8,1),(2,2)]⟩]
def qtv : List Plan:=[⟨[],[]⟩,⟨[],[]⟩,⟨[0,1],[(9,0),(10,1)]⟩,⟨[0,1,2],[(11,2)]⟩]
def qtw : List Plan:=[⟨[],[]⟩,⟨[],[]⟩,⟨[],[]⟩,⟨[0,1,2],[(12,0),(13,1),(14,2)]⟩,⟨[0,1,2,3],[(15,3)]⟩]
def qtx : List Plan:=[⟨[],[]⟩,⟨[0],[(16,0)]⟩,⟨[0,1],[(17,1)]⟩,⟨[0,1,2],[(18,2)]⟩,⟨[0,1,2,3],[(19,3)]⟩,⟨[0,1,2,3,4],[(19,3),(20,4)]⟩,⟨[0,1,2,3,4,5],[(19,3),(21,5)]⟩,⟨[0,1,2,3,4,5,6],[(19,3),(22,6)]⟩,⟨[0,1,2,3,4,5,6,7],[(23,7)]⟩,⟨[0,1,2,3,4,5,6,7,8],[(24,8)]⟩,⟨[0,1,2,3,4,5,6,7,8,9],[(24,8),(25,9)]⟩,⟨[0,1,2,3,4,5,6,7,8,9,10],[(24,8),(26,10)]⟩,⟨[0,1,2,3,4,5,6,7,8,9,10,11],[(24,8),(27,11)]⟩,⟨[0,1,2,3,4,5,6,7,8,9,10,11,12],[(28,12)]⟩,⟨[0,1,2,3,4,5,6,7,8,9,10,11,12,13],[(29,13)]⟩,⟨[0,1,2,3,4,5,6,7,8,9,10,11,12,13,14],[(29,13),(30,14)]⟩,⟨[0,1,2,3,4,5,6,7,8,9,10,11,12,13,14,15],[(29,13),(31,15)]⟩,⟨[0,1,2,3,4,5,6,7,8,9,10,11,12,13,14,15,16],[(29,13),(32,16)]⟩,⟨[0,1,2,3,4,5,6,7,8,9,10,11,12,13,14,15,16,17],[(33,17)]⟩,⟨[0,1,2,3,4,5,6,7,8,9,10,11,12,13,14,15,16,17,18],[(34,18)]⟩,⟨[0,1,2,3,4,5,6,7,8,9,10,11,12,13,14,15,16,17,18,19],[(34,18),(35,19)]⟩,⟨[0,1,2,3,4,5,6,7,8,9,10,11,12,13,14,15,16,17,18,19,20],[(36,20)]⟩,⟨[0,1,2,3,4,5,6,7,8,9,10,11,12,13,14,15,16,17,18,19,20,21],[(37,21)]⟩,⟨[0,1,2,3,4,5,6,7,8,9,10,11,12,13,14,15,16,17,18,19,20,21,22],[(37,21),(38,22)]⟩,⟨[0,1,2,3,4,5,6,7,8,9,10,11,12,13,14,15,16,17,18,19,20,21,22,23],[(37,21),(39,23)]⟩,⟨[0,1,2,3,4,5,6,7,8,9,10,11,12,13,14,15,16,17,18,19,20,21,22,23,24],[(40,24)]⟩]
theorem qn3 (w : World) (hT : Tab64 w) :
  Calls Tryz.prog 5 #[] w fun e w'=>e = .returned (.bool true)∧Ext w w':=by
 obtain ⟨f1,f2,f3,f4,f5⟩:=ex_final
 have hpub : ∀ w',Ext w w'→Calls Tryz.prog 6 #[.agg (qab qbe)] w' fun e w2=>e = .returned (.agg (qab (sKey (sNum (qbu qbe)))))∧Ext w' w2:=fun w' hx=>spub_any qbe w' (hT.ext hx)
 have hsig : ∀ w',Ext w w'→Calls Tryz.prog 7 #[.agg (qab qbe),.slice none 0 0] w' fun e w2=>e = .returned (h64 (sSig (sNum (qbu qbe)) (lf (qbu qbe) 32) []))∧Ext w' w2:=fun w' hx=>ssig_any qbe none 0 0 [] w' rfl (Nat.le_refl _) Rd.nil_ (by decide) (hT.ext hx)
 have f6 : sVer (qao (sKey (sNum (qbu qbe)))) [] (sSig (sNum (qbu qbe)) (lf (qbu qbe) 32) []) = true:=sVer_sig _ _ _
 have hl64 : (sSig (sNum (qbu qbe)) (lf (qbu qbe) 32) []).length = 64:=qmy _ _ _
 have hlo : V (lf (sSig (sNum (qbu qbe)) (lf (qbu qbe) 32) []) 32) < ordN:=sSig_low _ _ _
 have hP : decP (lf (qao (sKey (sNum (qbu qbe)))) 0) = some (Pt.mul (V (sNum (qbu qbe))) B7):=by
  rw [qg4 (qdz (sKey (sNum (qbu qbe))))]
  unfold sKey
  exact qj1 _
 generalize Pt.mul (V (sNum (qbu qbe))) B7 = PP at *
 generalize sSig (sNum (qbu qbe)) (lf (qbu qbe) 32) [] = SG at *
 generalize sKey (sNum (qbu qbe)) = KF at *
 have hv1 : ∀ w' A A',Rd w' A ((qao KF).map bv)→Rd w' A' (SG.map bv)→Ext w w'→Calls Tryz.prog 11 #[.slice A 32 32,.slice none 0 0,.slice A' 64 64] w' fun e w2=>e = .returned (.bool true)∧Ext w' w2:=fun w' A A' h1 h2 hx=>f6 ▸ qpb PP A 32 (qao KF) none 0 0 [] A' 64 SG w' (qau _) (Nat.le_refl _) h1 rfl (Nat.le_refl _) Rd.nil_ hl64 (Nat.le_refl _) h2 (by decide) (hT.ext hx) hlo hP
 have hv2 : ∀ w' A B A',Rd w' A ((qao KF).map bv)→Rd w' B [.int .u8 1]→Rd w' A' (SG.map bv)→Ext w w'→Calls Tryz.prog 11 #[.slice A 32 32,.slice B 1 1,.slice A' 64 64] w' fun e w2=>e = .returned (.bool false)∧Ext w' w2:=fun w' A B A' h1 h3 h2 hx=>f5 ▸ qpb PP A 32 (qao KF) B 1 1 [1] A' 64 SG w' (qau _) (Nat.le_refl _) h1 rfl (Nat.le_refl _) h3 hl64 (Nat.le_refl _) h2 (by decide) (hT.ext hx) hlo hP
 have e1 : n8 (KF 0) = 215:=by rw [f1];rfl
 have e2 : n8 (KF 31) = 26:=by rw [f2];rfl
 have e3 : n8 (SG.getD 0 0) = 229:=by rw [f3];rfl
 have e4 : n8 (SG.getD 63 0) = 11:=by rw [f4];rfl
 clear f1 f2 f3 f4 f5 f6 hlo hP
 go_enter Tryz.func5,Tryz.ntmps5
 go_upto_region 0 with fail
 have hx : Ext w w:=Ext.refl w
 have hE:=hE0 []
 refine qac (InvE [] [] [] (fun j u=>match j with | 0=>u = .bool false | _=>True) [] w) qts [(0,0)] 41 rfl (by kernel_rfl) (InvE.start0 (Inv.start0 ⟨by simp,by simp,by simp,by simp⟩ (by simp))) ⟨?_,trivial⟩ ?_
 ·exact eV hE fun L v w D N I=>⟨rfl,Ext.refl _⟩
 intro L v1 W1 hL hIE
 have hI:=hIE.inv
 have hxr:=hI.keep.to_ext
 replace hx:=hx.trans hxr
 clear hI hIE hL hE L hxr
 simp only [putP,Act.put,zA,zB,zC]
 go_upto_region 1 with fail
 have hok : TrsOk [] W1.heap.size ([(tk (some 2) 0 22 (some 3) (sz 32) (fun u=>u = .agg (qab (KF))))] : List Trk):=⟨by simp [tk],by simp [tk],by simp [tk],by simp [tk]⟩
 have hE : ∀ p ∈ ([] : List (Nat × (Value→World→Prop))),qck [22] p.2:=fun p hp=>by cases hp
 refine qac (InvE [22] [] [] (fun j u=>match j with | 0=>u = .agg (qab (qbe)) | 1=>u = .agg (qab (KF)) | _=>True) [(tk (some 2) 0 22 (some 3) (sz 32) (fun u=>u = .agg (qab (KF))))] W1) qtt [(5,0),(6,1),(1,2)] 41 rfl (by kernel_rfl) (InvE.start0 (Inv.start0 hok (by simp))) ⟨?_,?_,?_,?_,trivial⟩ ?_
 ·exact eV hE fun L v w D N I=>gSeed _ _ rfl rfl (qaf (qmv w))
 ·exact eV hE fun L v w D N I=>gPub _ _ rfl rfl (qaf (qai (hpub w (hx.trans I.inv.keep.to_ext)) (ar1 (I.inv.val 0 (D 0 rfl)))))
 ·exact qb3 0 hE rfl rfl rfl rfl rfl rfl hok fun L v w D I=>al_B rfl fun c h=>⟨trivial,rfl,c,rfl,qa5 c h⟩
 ·exact qd2 0 2 hE rfl rfl rfl rfl rfl rfl rfl rfl hok fun L v w D I n cs hb hR ho=>st_B hR (qaq ho) _ _ rfl hb (I.inv.val 1 (D 1 rfl)) fun _ c a b k=>⟨trivial,k,c,a,b⟩
 intro L v2 W2 hL hIE
 have hI:=hIE.inv
 obtain ⟨k,hb_k,lo_k,R_k⟩:=hI.made 0 rfl (hL 2 (by decide)) (hL 3 (by decide))
 have hxr:=hI.keep.to_ext
 replace hx:=hx.trans hxr
 clear hI hIE hL hE L hok hxr
 simp only [putP,Act.put,zA,zB,zC,hb_k]
 go_upto_region 2 with fail
 have hok : TrsOk [] W2.heap.size ([(tk (some 2) 0 26 (some 3) (sz 64) (fun u=>u = h64 (SG)))] : List Trk):=⟨by simp [tk],by simp [tk],by simp [tk],by simp [tk]⟩
 have hE : ∀ p ∈ ([] : List (Nat × (Value→World→Prop))),qck [26] p.2:=fun p hp=>by cases hp
 refine qac (InvE [26] [] [] (fun j u=>match j with | 0=>u = .agg (qab (qbe)) | 1=>u = h64 SG | _=>True) [(tk (some 2) 0 26 (some 3) (sz 64) (fun u=>u = h64 (SG)))] W2) qtu [(7,0),(8,1),(2,2)] 41 rfl (by kernel_rfl) (InvE.start0 (Inv.start0 hok (by simp))) ⟨?_,?_,?_,?_,trivial⟩ ?_
 ·exact eV hE fun L v w D N I=>gSeed _ _ rfl rfl (qaf (qmv w))
 ·exact eV hE fun L v w D N I=>gSig _ _ rfl rfl (qaf (qai (hsig w (hx.trans I.inv.keep.to_ext)) (ar2 (I.inv.val 0 (D 0 rfl)) rfl)))
 ·exact qb3 0 hE rfl rfl rfl rfl rfl rfl hok fun L v w D I=>al_H rfl fun c h=>⟨trivial,rfl,c,rfl,qa5 c h⟩
 ·exact qd2 0 2 hE rfl rfl rfl rfl rfl rfl rfl rfl hok fun L v w D I n cs hb hR ho=>st_H hR (qaq ho) hl64 _ _ rfl hb (I.inv.val 1 (D 1 rfl)) fun _ c a b k=>⟨trivial,k,c,a,b⟩
 intro L v3 W3 hL hIE
 have hI:=hIE.inv
 obtain ⟨s,hb_s,lo_s,R_s⟩:=hI.made 0 rfl (hL 2 (by decide)) (hL 3 (by decide))
 replace R_k:=R_k.keep0 hI.keep
 have hxr:=hI.keep.to_ext
 replace hx:=hx.trans hxr
 clear hI hIE hL hE L hok hxr
 simp only [putP,Act.put,zA,zB,zC,hb_s]
 go_upto_region 3 with fail
 have hE:=hE0 []
 refine qag (InvE [] [] [] (fun j u=>match j with | 0=>u = .slice (some ⟨k,0,none⟩) 32 32 | 1=>u = .slice (some ⟨s,0,none⟩) 64 64 | 2=>u = .bool true | 3=>u = .bool true | _=>True) [] W3) qtv [(9,0),(10,1),(11,2),(3,3)] 41 (by kernel_rfl) rfl (by kernel_rfl) (InvE.start (Inv.start ⟨by simp,by simp,by simp,by simp⟩ (by simp))) ⟨?_,?_,?_,?_,trivial⟩ ?_
 ·exact eV hE fun L v w D N I=>sl32 _ rfl rfl ⟨rfl,Ext.refl _⟩
 ·exact eV hE fun L v w D N I=>sl64 _ rfl rfl ⟨rfl,Ext.refl _⟩
 ·exact eV hE fun L v w D N I=>gVer _ _ rfl rfl (qaf (qai (hv1 w _ _ (rd_B (R_k.keep0 I.inv.keep)) (rd_H (R_s.keep0 I.inv.keep)) (hx.trans I.inv.keep.to_ext)) (ar3 (I.inv.val 0 (D 0 rfl)) rfl (I.inv.val 1 (D 1 rfl)))))
 ·exact eV hE fun L v w D N I=>⟨(I.inv.val 2 (D 2 rfl)),Ext.refl _⟩
 intro L v4 W4 hL hIE
 have hI:=hIE.inv
 replace R_k:=R_k.keep0 hI.keep
 replace R_s:=R_s.keep0 hI.keep
 have hxr:=hI.keep.to_ext
 replace hx:=hx.trans hxr
 have hs_3_3 : (v4 3) = .bool true:=hI.val 3 (hL 3 (by decide))
 clear hI hIE hL hE L hxr
 simp only [putP,Act.put,zA,zB,zC,hs_3_3]
 go_upto_region 4 with fail
 have hE : ∀ p ∈ ([(1,slE 5 (fun g cs u=>u = .slice (some ⟨g,0,none⟩) 1 1∧cs = [.int .u8 1]))] : List (Nat × (Value→World→Prop))),qck [] p.2:=by
  simp only [zD,zE,zF,zG,zH]
  exact qds rfl
 refine qag (InvE [] [(1,slE 5 (fun g cs u=>u = .slice (some ⟨g,0,none⟩) 1 1∧cs = [.int .u8 1]))] [] (fun j u=>match j with | 0=>u = .slice (some ⟨k,0,none⟩) 32 32 | 2=>u = .slice (some ⟨s,0,none⟩) 64 64 | 3=>u = .bool false | 4=>u = .bool false | _=>True) [] W4) qtw [(12,0),(13,1),(14,2),(15,3),(4,4)] 41 (by kernel_rfl) rfl (by kernel_rfl) (InvE.start (Inv.start ⟨by simp,by simp,by simp,by simp⟩ (by simp))) ⟨?_,?_,?_,?_,?_,trivial⟩ ?_
 ·exact eV hE fun L v w D N I=>sl32 _ rfl rfl ⟨rfl,Ext.refl _⟩
 ·exact qgr 0 hE rfl rfl rfl rfl (fun _=>trivial) fun L v w D N I=>give_bsb rfl rfl ⟨⟨_,_,Row.alloc w [.int .u8 1] _,rfl,rfl⟩,qaa _ _⟩
 ·exact eV hE fun L v w D N I=>sl64 _ rfl rfl ⟨rfl,Ext.refl _⟩
 ·exact eV hE fun L v w D N I=>by obtain ⟨g,cs,hrg,e,hc⟩:=(I.at 0 rfl (D 1 rfl));subst hc;exact gVer _ _ rfl rfl (qaf (qai (hv2 w _ _ _ (rd_B (R_k.keep0 I.inv.keep)) (Rd.row hrg) (rd_H (R_s.keep0 I.inv.keep)) (hx.trans I.inv.keep.to_ext)) (ar3 (I.inv.val 0 (D 0 rfl)) e (I.inv.val 2 (D 2 rfl)))))
 ·exact eV hE fun L v w D N I=>⟨(I.inv.val 3 (D 3 rfl)),Ext.refl _⟩
 intro L v5 W5 hL hIE
 have hI:=hIE.inv
 replace R_k:=R_k.keep0 hI.keep
 replace R_s:=R_s.keep0 hI.keep
 have hxr:=hI.keep.to_ext
 replace hx:=hx.trans hxr
 have hs_4_4 : (v5 4) = .bool false:=hI.val 4 (hL 4 (by decide))
 clear hI hIE hL hE L hxr
 simp only [putP,Act.put,zA,zB,zC,hs_4_4]
 go_upto_region 5 with fail
 have hE:=hE0 []
 refine qac (InvE [] [] [] (fun j u=>match j with | 0=>u = .pointer (some ⟨k,0 * 1,none⟩) | 1=>u = .int .u8 (n8 (KF 0)) | 2=>u = .bool true | 3=>u = .bool true | 4=>u = .pointer (some ⟨k,31 * 1,none⟩) | 5=>u = .int .u8 (n8 (KF 31)) | 6=>u = .bool true | 7=>u = .bool true | 8=>u = .bool true | 9=>u = .pointer (some ⟨s,0 * 1,none⟩) | 10=>u = .int .u8 (n8 (SG.getD 0 0)) | 11=>u = .bool true | 12=>u = .bool true | 13=>u = .bool true | 14=>u = .pointer (some ⟨s,63 * 1,none⟩) | 15=>u = .int .u8 (n8 (SG.getD 63 0)) | 16=>u = .bool true | 17=>u = .bool true | 18=>u = .bool true | 19=>u = .bool true | 20=>u = .bool true | 21=>u = .bool true | 22=>u = .bool false | 23=>u = .bool true | 24=>u = .bool true | 25=>u = .bool true | _=>True) [] W5) qtx [(16,0),(17,1),(18,2),(19,3),(20,4),(21,5),(22,6),(23,7),(24,8),(25,9),(26,10),(27,11),(28,12),(29,13),(30,14),(31,15),(32,16),(33,17),(34,18),(35,19),(36,20),(37,21),(38,22),(39,23),(40,24),(0,25)] 41 rfl (by kernel_rfl) (InvE.start0 (Inv.start0 ⟨by simp,by simp,by simp,by simp⟩ (by simp))) ⟨?_,?_,?_,?_,?_,?_,?_,?_,?_,?_,?_,?_,?_,?_,?_,?_,?_,?_,?_,?_,?_,?_,?_,?_,?_,?_,trivial⟩ ?_
 ·exact eV hE fun L v w D N I=>qa3 _ _ _ _ rfl k 0 1 32 .i64 rfl rfl u22 (by decide) i5_ ⟨rfl,Ext.refl _⟩
 ·exact eV hE fun L v w D N I=>qjx (R_k.keep0 I.inv.keep) (m:=0) (by decide) _ rfl (I.inv.val 0 (D 0 rfl)) ldK
 ·exact eV hE fun L v w D N I=>g_eq8 _ _ _ _ _ rfl (I.inv.val 1 (D 1 rfl)) rfl e1 ⟨rfl,Ext.refl _⟩
 ·exact eV hE fun L v w D N I=>⟨(I.inv.val 2 (D 2 rfl)),Ext.refl _⟩
 ·exact qan hE rfl rfl rfl rfl (fun u h=>h) fun L v w D N I=>qa3 _ _ _ _ rfl k 31 1 32 .i64 rfl rfl u22 (by decide) i5_ ⟨rfl,Ext.refl _⟩
 ·exact qan hE rfl rfl rfl rfl (fun u h=>h) fun L v w D N I=>qjx (R_k.keep0 I.inv.keep) (m:=31) (by decide) _ rfl (I.inv.val 4 (D 4 rfl)) ldK
 ·exact qan hE rfl rfl rfl rfl (fun u h=>h) fun L v w D N I=>g_eq8 _ _ _ _ _ rfl (I.inv.val 5 (D 5 rfl)) rfl e2 ⟨rfl,Ext.refl _⟩
 ·exact eV hE fun L v w D N I=>qbi _ _ _ rfl (I.inv.val 3 (D 3 rfl)) ⟨(I.inv.val 6 (D 6 rfl)),Ext.refl _⟩
 ·exact eV hE fun L v w D N I=>⟨(I.inv.val 7 (D 7 rfl)),Ext.refl _⟩
 ·exact qan hE rfl rfl rfl rfl (fun u h=>h) fun L v w D N I=>qa3 _ _ _ _ rfl s 0 1 64 .i64 rfl rfl u64a (by decide) i5_ ⟨rfl,Ext.refl _⟩
 ·exact qan hE rfl rfl rfl rfl (fun u h=>h) fun L v w D N I=>ld_Hb 0 (by decide) hl64 (R_s.keep0 I.inv.keep) _ rfl (I.inv.val 9 (D 9 rfl)) ldK
 ·exact qan hE rfl rfl rfl rfl (fun u h=>h) fun L v w D N I=>g_eq8 _ _ _ _ _ rfl (I.inv.val 10 (D 10 rfl)) rfl e3 ⟨rfl,Ext.refl _⟩
 ·exact eV hE fun L v w D N I=>qbi _ _ _ rfl (I.inv.val 8 (D 8 rfl)) ⟨(I.inv.val 11 (D 11 rfl)),Ext.refl _⟩
 ·exact eV hE fun L v w D N I=>⟨(I.inv.val 12 (D 12 rfl)),Ext.refl _⟩
 ·exact qan hE rfl rfl rfl rfl (fun u h=>h) fun L v w D N I=>qa3 _ _ _ _ rfl s 63 1 64 .i64 rfl rfl u64a (by decide) i5_ ⟨rfl,Ext.refl _⟩
 ·exact qan hE rfl rfl rfl rfl (fun u h=>h) fun L v w D N I=>ld_Hb 63 (by decide) hl64 (R_s.keep0 I.inv.keep) _ rfl (I.inv.val 14 (D 14 rfl)) ldK
 ·exact qan hE rfl rfl rfl rfl (fun u h=>h) fun L v w D N I=>g_eq8 _ _ _ _ _ rfl (I.inv.val 15 (D 15 rfl)) rfl e4 ⟨rfl,Ext.refl _⟩
 ·exact eV hE fun L v w D N I=>qbi _ _ _ rfl (I.inv.val 13 (D 13 rfl)) ⟨(I.inv.val 16 (D 16 rfl)),Ext.refl _⟩
 ·exact eV hE fun L v w D N I=>⟨(I.inv.val 17 (D 17 rfl)),Ext.refl _⟩
 ·exact qan hE rfl rfl rfl rfl (fun u h=>h) fun L v w D N I=>⟨rfl,Ext.refl _⟩
 ·exact eV hE fun L v w D N I=>qbi _ _ _ rfl (I.inv.val 18 (D 18 rfl)) ⟨(I.inv.val 19 (D 19 rfl)),Ext.refl _⟩
 ·exact eV hE fun L v w D N I=>⟨(I.inv.val 20 (D 20 rfl)),Ext.refl _⟩
 ·exact qan hE rfl rfl rfl rfl (fun u h=>h) fun L v w D N I=>⟨rfl,Ext.refl _⟩
 ·exact qan hE rfl rfl rfl rfl (fun u h=>h) fun L v w D N I=>qhq _ _ rfl (I.inv.val 22 (D 22 rfl)) ⟨rfl,Ext.refl _⟩
 ·exact eV hE fun L v w D N I=>qbi _ _ _ rfl (I.inv.val 21 (D 21 rfl)) ⟨(I.inv.val 23 (D 23 rfl)),Ext.refl _⟩
 ·exact eV hE fun L v w D N I=>⟨(I.inv.val 24 (D 24 rfl)),Ext.refl _⟩
 intro L v6 W6 hL hIE
 have hI:=hIE.inv
 replace R_k:=R_k.keep0 hI.keep
 replace R_s:=R_s.keep0 hI.keep
 have hxr:=hI.keep.to_ext
 replace hx:=hx.trans hxr
 have hs_0_5 : (v6 25) = .bool true:=hI.val 25 (hL 25 (by decide))
 clear hI hIE hL hE L hxr
 simp only [putP,Act.put,zA,zB,zC,hs_0_5]
 go_wp2
 go_ret
 exact ⟨rfl,hx⟩
end Go.Proofs.YtgeihelkkhjjaaaGreatDoor
end
section
namespace Go.Proofs.YtgeihelkkhjjaaaGreatDoor
open Go.RowKit Go.Cv Go.Cv.Pr Go.Cv.Grp Go.Cv.Hash
section
variable {w : World} {o : Oper} {ev : Operand→Value} {R : Value→World→Prop}
theorem gSame : GC 8 := gcOf Tryz.func8 (by kernel_rfl) (by kernel_rfl)
theorem gRVer : GC 12 := gcOf Tryz.func12 (by kernel_rfl) (by kernel_rfl)
theorem g_eqbb (p q : Operand) (t : TypeId) (b : Bool) (ho : o.op = .binOp .eql 4 p q t) (hx : ev p = .bool b) (hy : ev q = .bool b) (h : R (.bool true) w) : qak Tryz.prog R ((execOp ev o).run Tryz.prog w):=by
 unfold execOp
 simp only [ho,hx,hy]
 cases b <;> go_simp <;> exact h
end
theorem qh0 (A : Option Addr) (n c : Nat) (l : List UInt8) (B : Option Addr) (m d : Nat) (w : World) (hl : l.length = n) (hm : l.length = m) (hr : Rd w A (l.map bv)) (hr2 : Rd w B (l.map bv)) (bnd : n ≤ 5000000) :
  Calls Tryz.prog 8 #[.slice A n c,.slice B m d] w fun e w'=>e = .returned (.bool true)∧Ext w w':=by
 have h:=qmx A n c l B m d l w hl hr hm hr2 bnd
 rwa [decide_eq_true rfl] at h
def qv8 : List Plan:=[⟨[],[]⟩]
def qv9 : List Plan:=[⟨[],[]⟩,⟨[0],[(13,0)]⟩]
def qwb : List Plan:=[⟨[],[]⟩,⟨[],[]⟩,⟨[],[]⟩,⟨[0,1,2],[(23,0),(24,1),(25,2)]⟩,⟨[0,1,2,3],[(26,3)]⟩]
def qwc : List Plan:=[⟨[],[]⟩,⟨[],[]⟩,⟨[0,1],[(27,0),(28,1)]⟩,⟨[0,1,2],[(29,2)]⟩,⟨[0,1,2,3],[(30,3)]⟩,⟨[0,1,2,3],[(30,3)]⟩,⟨[0,1,2,3,4,5],[(30,3),(31,4),(32,5)]⟩,⟨[0,1,2,3,4,5,6],[(30,3),(33,6)]⟩,⟨[0,1,2,3,4,5,6,7],[(34,7)]⟩,⟨[0,1,2,3,4,5,6,7,8],[(35,8)]⟩,⟨[0,1,2,3,4,5,6,7,8],[(35,8)]⟩,⟨[0,1,2,3,4,5,6,7,8,9,10],[(35,8),(36,9),(37,10)]⟩,⟨[0,1,2,3,4,5,6,7,8,9,10,11],[(35,8),(38,11)]⟩,⟨[0,1,2,3,4,5,6,7,8,9,10,11,12],[(39,12)]⟩]
def qwa : List Plan:=[⟨[],[]⟩,⟨[0],[(40,0)]⟩,⟨[0,1],[(41,1)]⟩,⟨[0,1,2],[(41,1),(42,2)]⟩,⟨[0,1,2,3],[(43,3)]⟩,⟨[0,1,2,3,4],[(44,4)]⟩,⟨[0,1,2,3,4],[(44,4)]⟩,⟨[0,1,2,3,4],[(44,4)]⟩,⟨[0,1,2,3,4],[(44,4)]⟩,⟨[0,1,2,3,4,6,7,8],[(44,4),(46,6),(47,7),(48,8)]⟩,⟨[0,1,2,3,4,5,6,7,8,9],[(44,4),(45,5),(49,9)]⟩,⟨[0,1,2,3,4,5,6,7,8,9,10],[(44,4),(50,10)]⟩,⟨[0,1,2,3,4,5,6,7,8,9,10,11],[(51,11)]⟩]
theorem qj8 (A1 : Option Addr) (n1 c1 : Nat) (key : List UInt8) (A2 : Option Addr) (n2 c2 : Nat) (l : List UInt8) (A3 : Option Addr) (n3 c3 : Nat) (g : List UInt8) (w : World) (hk : key.length = n1) (hc1 : n1 ≤ c1) (hr1 : Rd w A1 (key.map bv)) (hl : l.length = n2) (hc2 : n2 ≤ c2) (hr2 : Rd w A2 (l.map bv)) (hg : g.length = n3) (hc3 : n3 ≤ c3) (hr3 : Rd w A3 (g.map bv)) (bnd : n1 + n2 + n3 ≤ 4800000) (hT : Tab64 w) :
  Calls Tryz.prog 4 #[.slice A1 n1 c1,.slice A2 n2 c2,.slice A3 n3 c3] w fun e w'=>e = .returned (.bool true)∧Ext w w':=by
 have hver : ∀ w' (B1 B2 B3 : Option Addr) (d1 d2 d3 : Nat),n1 ≤ d1→n2 ≤ d2→n3 ≤ d3→Rd w' B1 (key.map bv)→Rd w' B2 (l.map bv)→Rd w' B3 (g.map bv)→Ext w w'→Calls Tryz.prog 11 #[.slice B1 n1 d1,.slice B2 n2 d2,.slice B3 n3 d3] w' fun e w2=>e = .returned (.bool (sVer key l g))∧Ext w' w2:=fun w' B1 B2 B3 d1 d2 d3 e1 e2 e3 h1 h2 h3 hx=>sver_any B1 n1 d1 key B2 n2 d2 l B3 n3 d3 g w' hk e1 h1 hl e2 h2 hg e3 h3 (by omega) (hT.ext hx)
 have hrv : ∀ w',Ext w w'→Calls Tryz.prog 12 #[.slice A1 n1 c1,.slice A2 n2 c2,.slice A3 n3 c3] w' fun e w2=>e = .returned (.bool (sVer key l g))∧Ext w' w2:=fun w' hx=>rver_any A1 n1 c1 key A2 n2 c2 l A3 n3 c3 g w' hk hc1 (hr1.ext hx) hl (hr2.ext hx) hg hc3 (hr3.ext hx) (by omega)
 generalize sVer key l g = VV at *
 have hs1 : ∀ w' B1 d1,Rd w' B1 (key.map bv)→Ext w w'→Calls Tryz.prog 8 #[.slice B1 n1 d1,.slice A1 n1 c1] w' fun e w2=>e = .returned (.bool true)∧Ext w' w2:=fun w' B1 d1 h1 hx=>qh0 B1 n1 d1 key A1 n1 c1 w' hk hk h1 (hr1.ext hx) (by omega)
 have hs2 : ∀ w' B1 d1,Rd w' B1 (l.map bv)→Ext w w'→Calls Tryz.prog 8 #[.slice B1 n2 d1,.slice A2 n2 c2] w' fun e w2=>e = .returned (.bool true)∧Ext w' w2:=fun w' B1 d1 h1 hx=>qh0 B1 n2 d1 l A2 n2 c2 w' hl hl h1 (hr2.ext hx) (by omega)
 have hs3 : ∀ w' B1 d1,Rd w' B1 (g.map bv)→Ext w w'→Calls Tryz.prog 8 #[.slice B1 n3 d1,.slice A3 n3 c3] w' fun e w2=>e = .returned (.bool true)∧Ext w' w2:=fun w' B1 d1 h1 hx=>qh0 B1 n3 d1 g A3 n3 c3 w' hg hg h1 (hr3.ext hx) (by omega)
 go_enter Tryz.func4,Tryz.ntmps4
 go_upto_region 0 with fail
 have hx : Ext w w:=Ext.refl w
 have hE:=hE0 []
 refine qac (InvE [] [] [] (fun j u=>match j with | 0=>u = .bool false | _=>True) [] w) qv8 [(6,0)] 52 rfl (by kernel_rfl) (InvE.start0 (Inv.start0 ⟨by simp,by simp,by simp,by simp⟩ (by simp))) ⟨?_,trivial⟩ ?_
 ·exact eV hE fun L v w D N I=>⟨rfl,Ext.refl _⟩
 intro L v1 W1 hL hIE
 have hI:=hIE.inv
 have hxr:=hI.keep.to_ext
 replace hx:=hx.trans hxr
 clear hI hIE hL hE L hxr
 simp only [putP,Act.put,zA,zB,zC]
 go_upto_region 1 with fail
 have hE:=hE0 []
 refine qac (InvE [] [] [] (fun j u=>match j with | 0=>u = .bool true | 1=>u = .bool true | _=>True) [] W1) qv9 [(13,0),(7,1)] 52 rfl (by kernel_rfl) (InvE.start0 (Inv.start0 ⟨by simp,by simp,by simp,by simp⟩ (by simp))) ⟨?_,?_,trivial⟩ ?_
 ·exact eV hE fun L v w D N I=>gShown _ _ rfl rfl (qaf (qn3 w (hT.ext (hx.trans I.inv.keep.to_ext))))
 ·exact eV hE fun L v w D N I=>⟨(I.inv.val 0 (D 0 rfl)),Ext.refl _⟩
 intro L v2 W2 hL hIE
 have hI:=hIE.inv
 have hxr:=hI.keep.to_ext
 replace hx:=hx.trans hxr
 have hs_7_1 : (v2 1) = .bool true:=hI.val 1 (hL 1 (by decide))
 clear hI hIE hL hE L hxr
 simp only [putP,Act.put,zA,zB,zC,hs_7_1]
 go_upto_region 8 with (first
  | (at_builtin;refine qc8 rfl (.tmp 14) (.tmp 15) 23 5 rfl qbj rfl A1 n1 c1 key rfl hk (hr1.ext hx) (by omega) ?_;intro B1 d1 w3 ho1 hd1 hm1 hrB1 hx3;have hxa:=hx.trans hx3)
  | (at_builtin;refine qc8 rfl (.tmp 17) (.tmp 18) 23 5 rfl qbj rfl A2 n2 c2 l rfl hl (hr2.ext hxa) (by omega) ?_;intro B2 d2 w4 ho2 hd2 hm2 hrB2 hx4;have hxb:=hxa.trans hx4)
  | (at_builtin;refine qc8 rfl (.tmp 20) (.tmp 21) 23 5 rfl qbj rfl A3 n3 c3 g rfl hg (hr3.ext hxb) (by omega) ?_;intro B3 d3 w5 ho3 hd3 hm3 hrB3 hx5;have hxc:=hxb.trans hx5))
 replace hrB1:=hrB1.ext (hx4.trans hx5)
 replace hrB2:=hrB2.ext hx5
 replace hx:=hxc
 clear ho1 ho2 ho3 hx3 hx4 hx5 hxa hxb hxc
 have hE:=hE0 []
 refine qac (InvE [] [] [] (fun j u=>match j with | 0=>u = .slice B1 n1 d1 | 1=>u = .slice B2 n2 d2 | 2=>u = .slice B3 n3 d3 | 3=>u = .bool VV | 4=>u = .bool VV | _=>True) [] w5) qwb [(23,0),(24,1),(25,2),(26,3),(11,4)] 52 rfl (by kernel_rfl) (InvE.start0 (Inv.start0 ⟨by simp,by simp,by simp,by simp⟩ (by simp))) ⟨?_,?_,?_,?_,?_,trivial⟩ ?_
 ·exact eV hE fun L v w D N I=>⟨rfl,Ext.refl _⟩
 ·exact eV hE fun L v w D N I=>⟨rfl,Ext.refl _⟩
 ·exact eV hE fun L v w D N I=>⟨rfl,Ext.refl _⟩
 ·exact eV hE fun L v w D N I=>gVer _ _ rfl rfl (qaf (qai (hver w _ _ _ _ _ _ hd1 hd2 hd3 (hrB1.ext I.inv.keep.to_ext) (hrB2.ext I.inv.keep.to_ext) (hrB3.ext I.inv.keep.to_ext) (hx.trans I.inv.keep.to_ext)) (ar3 (I.inv.val 0 (D 0 rfl)) (I.inv.val 1 (D 1 rfl)) (I.inv.val 2 (D 2 rfl)))))
 ·exact eV hE fun L v w D N I=>⟨(I.inv.val 3 (D 3 rfl)),Ext.refl _⟩
 intro L v3 W3 hL hIE
 have hI:=hIE.inv
 have hxr:=hI.keep.to_ext
 replace hx:=hx.trans hxr
 have hs_11_8 : (v3 4) = .bool VV:=hI.val 4 (hL 4 (by decide))
 replace hrB1:=hrB1.ext hxr
 replace hrB2:=hrB2.ext hxr
 replace hrB3:=hrB3.ext hxr
 clear hI hIE hL hE L hxr
 simp only [putP,Act.put,zA,zB,zC,hs_11_8]
 go_upto_region 9 with fail
 have hE:=hE0 []
 refine qac (InvE [] [] [] (fun j u=>match j with | 0=>u = .slice B1 n1 d1 | 1=>u = .slice A1 n1 c1 | 2=>u = .bool true | 3=>u = .bool true | 4=>u = .slice B2 n2 d2 | 5=>u = .slice A2 n2 c2 | 6=>u = .bool true | 7=>u = .bool true | 8=>u = .bool true | 9=>u = .slice B3 n3 d3 | 10=>u = .slice A3 n3 c3 | 11=>u = .bool true | 12=>u = .bool true | 13=>u = .bool true | _=>True) [] W3) qwc [(27,0),(28,1),(29,2),(30,3),(31,4),(32,5),(33,6),(34,7),(35,8),(36,9),(37,10),(38,11),(39,12),(12,13)] 52 rfl (by kernel_rfl) (InvE.start0 (Inv.start0 ⟨by simp,by simp,by simp,by simp⟩ (by simp))) ⟨?_,?_,?_,?_,?_,?_,?_,?_,?_,?_,?_,?_,?_,?_,trivial⟩ ?_
 ·exact eV hE fun L v w D N I=>⟨rfl,Ext.refl _⟩
 ·exact eV hE fun L v w D N I=>⟨rfl,Ext.refl _⟩
 ·exact eV hE fun L v w D N I=>gSame _ _ rfl rfl (qaf (qai (hs1 w _ _ (hrB1.ext I.inv.keep.to_ext) (hx.trans I.inv.keep.to_ext)) (ar2 (I.inv.val 0 (D 0 rfl)) (I.inv.val 1 (D 1 rfl)))))
 ·exact eV hE fun L v w D N I=>⟨(I.inv.val 2 (D 2 rfl)),Ext.refl _⟩
 ·exact qan hE rfl rfl rfl rfl (fun u h=>h) fun L v w D N I=>⟨rfl,Ext.refl _⟩
 ·exact qan hE rfl rfl rfl rfl (fun u h=>h) fun L v w D N I=>⟨rfl,Ext.refl _⟩
 ·exact qan hE rfl rfl rfl rfl (fun u h=>h) fun L v w D N I=>gSame _ _ rfl rfl (qaf (qai (hs2 w _ _ (hrB2.ext I.inv.keep.to_ext) (hx.trans I.inv.keep.to_ext)) (ar2 (I.inv.val 4 (D 4 rfl)) (I.inv.val 5 (D 5 rfl)))))
 ·exact eV hE fun L v w D N I=>qbi _ _ _ rfl (I.inv.val 3 (D 3 rfl)) ⟨(I.inv.val 6 (D 6 rfl)),Ext.refl _⟩
 ·exact eV hE fun L v w D N I=>⟨(I.inv.val 7 (D 7 rfl)),Ext.refl _⟩
 ·exact qan hE rfl rfl rfl rfl (fun u h=>h) fun L v w D N I=>⟨rfl,Ext.refl _⟩
 ·exact qan hE rfl rfl rfl rfl (fun u h=>h) fun L v w D N I=>⟨rfl,Ext.refl _⟩
 ·exact qan hE rfl rfl rfl rfl (fun u h=>h) fun L v w D N I=>gSame _ _ rfl rfl (qaf (qai (hs3 w _ _ (hrB3.ext I.inv.keep.to_ext) (hx.trans I.inv.keep.to_ext)) (ar2 (I.inv.val 9 (D 9 rfl)) (I.inv.val 10 (D 10 rfl)))))
 ·exact eV hE fun L v w D N I=>qbi _ _ _ rfl (I.inv.val 8 (D 8 rfl)) ⟨(I.inv.val 11 (D 11 rfl)),Ext.refl _⟩
 ·exact eV hE fun L v w D N I=>⟨(I.inv.val 12 (D 12 rfl)),Ext.refl _⟩
 intro L v4 W4 hL hIE
 have hI:=hIE.inv
 have hxr:=hI.keep.to_ext
 replace hx:=hx.trans hxr
 have hs_12_9 : (v4 13) = .bool true:=hI.val 13 (hL 13 (by decide))
 replace hrB1:=hrB1.ext hxr
 replace hrB2:=hrB2.ext hxr
 replace hrB3:=hrB3.ext hxr
 clear hI hIE hL hE L hxr
 simp only [putP,Act.put,zA,zB,zC,hs_12_9]
 go_upto_region 10 with fail
 have hE:=hE0 []
 refine qac (InvE [] [] [] (fun j u=>match j with | 0=>u = .bool true | 1=>u = .bool true | 2=>u = .bool true | 3=>u = .bool true | 4=>u = .bool true | 5=>u = .bool VV | 6=>u = .slice A1 n1 c1 | 7=>u = .slice A2 n2 c2 | 8=>u = .slice A3 n3 c3 | 9=>u = .bool VV | 10=>u = .bool true | 11=>u = .bool true | 12=>u = .bool true | _=>True) [] W4) qwa [(40,0),(41,1),(42,2),(43,3),(44,4),(45,5),(46,6),(47,7),(48,8),(49,9),(50,10),(51,11),(6,12)] 52 rfl (by kernel_rfl) (InvE.start0 (Inv.start0 ⟨by simp,by simp,by simp,by simp⟩ (by simp))) ⟨?_,?_,?_,?_,?_,?_,?_,?_,?_,?_,?_,?_,?_,trivial⟩ ?_
 ·exact eV hE fun L v w D N I=>⟨rfl,Ext.refl _⟩
 ·exact eV hE fun L v w D N I=>⟨(I.inv.val 0 (D 0 rfl)),Ext.refl _⟩
 ·exact qan hE rfl rfl rfl rfl (fun u h=>h) fun L v w D N I=>⟨rfl,Ext.refl _⟩
 ·exact eV hE fun L v w D N I=>qbi _ _ _ rfl (I.inv.val 1 (D 1 rfl)) ⟨(I.inv.val 2 (D 2 rfl)),Ext.refl _⟩
 ·exact eV hE fun L v w D N I=>⟨(I.inv.val 3 (D 3 rfl)),Ext.refl _⟩
 ·exact qan hE rfl rfl rfl rfl (fun u h=>h) fun L v w D N I=>⟨rfl,Ext.refl _⟩
 ·exact qan hE rfl rfl rfl rfl (fun u h=>h) fun L v w D N I=>⟨rfl,Ext.refl _⟩
 ·exact qan hE rfl rfl rfl rfl (fun u h=>h) fun L v w D N I=>⟨rfl,Ext.refl _⟩
 ·exact qan hE rfl rfl rfl rfl (fun u h=>h) fun L v w D N I=>⟨rfl,Ext.refl _⟩
 ·exact qan hE rfl rfl rfl rfl (fun u h=>h) fun L v w D N I=>gRVer _ _ rfl rfl (qaf (qai (hrv w (hx.trans I.inv.keep.to_ext)) (ar3 (I.inv.val 6 (D 6 rfl)) (I.inv.val 7 (D 7 rfl)) (I.inv.val 8 (D 8 rfl)))))
 ·exact qan hE rfl rfl rfl rfl (fun u h=>h) fun L v w D N I=>g_eqbb _ _ _ _ rfl (I.inv.val 5 (D 5 rfl)) (I.inv.val 9 (D 9 rfl)) ⟨rfl,Ext.refl _⟩
 ·exact eV hE fun L v w D N I=>qbi _ _ _ rfl (I.inv.val 4 (D 4 rfl)) ⟨(I.inv.val 10 (D 10 rfl)),Ext.refl _⟩
 ·exact eV hE fun L v w D N I=>⟨(I.inv.val 11 (D 11 rfl)),Ext.refl _⟩
 intro L v5 W5 hL hIE
 have hI:=hIE.inv
 have hxr:=hI.keep.to_ext
 replace hx:=hx.trans hxr
 have hs_6_10 : (v5 12) = .bool true:=hI.val 12 (hL 12 (by decide))
 replace hrB1:=hrB1.ext hxr
 replace hrB2:=hrB2.ext hxr
 replace hrB3:=hrB3.ext hxr
 clear hI hIE hL hE L hxr
 simp only [putP,Act.put,zA,zB,zC,hs_6_10]
 go_wp2
 go_ret
 exact ⟨rfl,hx⟩
theorem verifies_w (A1 : Option Addr) (n1 c1 : Nat) (key : List UInt8) (A2 : Option Addr) (n2 c2 : Nat) (l : List UInt8) (A3 : Option Addr) (n3 c3 : Nat) (g : List UInt8) (w : World) (hT : Tab64 w) (h1 : ArgB w A1 n1 c1 key) (h2 : ArgB w A2 n2 c2 l) (h3 : ArgB w A3 n3 c3 g) (bnd : c1 + c2 + c3 ≤ 1048576) :
  Calls Tryz.prog 4 #[.slice A1 n1 c1,.slice A2 n2 c2,.slice A3 n3 c3] w fun e w'=>e = .returned (.bool true)∧Ext w w':=by
 have e1:=h1.le
 have e2:=h2.le
 have e3:=h3.le
 exact qj8 A1 n1 c1 key A2 n2 c2 l A3 n3 c3 g w h1.len e1 h1.rd h2.len e2 h2.rd h3.len e3 h3.rd (by omega) hT
end Go.Proofs.YtgeihelkkhjjaaaGreatDoor
end
