/-
  Texts of the lemmas below the claim, put together: SgB SgK SgQ SgP.
-/
import Derived.Test.YtgeihelkkhjjaaaGreatDoorKDec
import Derived.Test.YtgeihelkkhjjaaaGreatDoorKAnsE
import Derived.Test.YtgeihelkkhjjaaaGreatDoorKGiv
import Derived.Test.YtgeihelkkhjjaaaGreatDoorKPt
set_option linter.unusedSimpArgs false
set_option linter.unusedVariables false
set_option maxRecDepth 20000
set_option maxHeartbeats 8000000
section
namespace Go.Proofs.YtgeihelkkhjjaaaGreatDoor
open Go.RowKit Go.Cv Go.Cv.Pr Go.Cv.Grp
theorem on_pt (P : P7) : C7.on (tf (V (fb P.x))) (tf (V (fb P.y))):=by rw [qbw,qbw];exact P.on
theorem qjc (k : Nat→UInt8) (P : P7) (w : World) :
  Calls Tryz.prog 43 #[.agg (qab k),.agg (pc (fb P.x) (fb P.y))] w fun e w'=>e = .returned (.tuple #[.agg (pc (fb (Pt.mul (V k) P).x) (fb (Pt.mul (V k) P).y)),.nilIface])∧Ext w w' :=
 times_on (qbw _) (qbw _) w
theorem enc_pt (P : P7) (w : World) :
  Calls Tryz.prog 45 #[.agg (pc (fb P.x) (fb P.y))] w fun e w'=>e = .returned (.tuple #[.agg (qab (encF P.x P.y)),.nilIface])∧Ext w w':=by
 have h:=enc_on (on_pt P) w
 rw [qbw,qbw] at h
 exact h
section
variable {w : World} {o : Oper} {ev : Operand→Value} {R : Value→World→Prop}
end
def qsj : List Plan:=[⟨[],[]⟩,⟨[],[]⟩]
def qsk : List Plan:=[⟨[],[]⟩,⟨[],[]⟩,⟨[0,1],[(7,0),(8,1)]⟩,⟨[0,1,2],[(9,2)]⟩,⟨[0,1,2,3],[(6,3)]⟩,⟨[0,1,2,3],[(6,3)]⟩,⟨[],[]⟩,⟨[0,1,2,3,4,6],[(10,4),(3,6)]⟩,⟨[0,1,2,3,4,5,6,7],[(11,5)]⟩]
def qsl : List Plan:=[⟨[],[]⟩,⟨[0],[(12,0)]⟩]
def qsm : List Plan:=[⟨[],[]⟩,⟨[0],[(16,0)]⟩,⟨[0,1],[(17,1)]⟩,⟨[0,1,2],[(15,2)]⟩,⟨[0,1,2],[(15,2)]⟩,⟨[],[]⟩,⟨[0,1,2,3,5],[(18,3),(5,5)]⟩,⟨[0,1,2,3,4,5,6],[(19,4)]⟩]
def qsn : List Plan:=[⟨[],[]⟩,⟨[0],[(20,0)]⟩]
def qso : List Plan:=[⟨[],[]⟩,⟨[0],[(23,0)]⟩]
theorem qkh (f : Nat→UInt8) (w : World) :
  Calls Tryz.prog 17 #[.agg (qab f)] w fun e w'=>e = .returned (.agg (qab (encF (Pt.mul (V f) B7).x (Pt.mul (V f) B7).y)))∧Ext w w':=by
 go_enter Tryz.func17,Tryz.ntmps17
 have hx : Ext w w:=Ext.refl w
 go_upto_region 0 with fail
 have hok : TrsOk [] w.heap.size ([(tk (some 0) 0 22 (none) (fun u=>u = .agg (qab (f))) (fun _=>True)),(tk (some 1) 0 22 (none) (sz 32) (fun _=>True))] : List Trk):=⟨by simp [tk],by simp [tk],by simp [tk],by simp [tk]⟩
 refine qac (Inv [] (fun _ _=>True) [(tk (some 0) 0 22 (none) (fun u=>u = .agg (qab (f))) (fun _=>True)),(tk (some 1) 0 22 (none) (sz 32) (fun _=>True))] w) qsj [(1,0),(2,1)] 24 rfl (by kernel_rfl) (Inv.start0 hok (by simp)) ⟨?_,?_,trivial⟩ ?_
 ·exact qa7 0 rfl rfl rfl rfl rfl hok fun L v w D I=>qba (qab f).toList rfl rfl ⟨trivial,rfl,_,rfl,rfl⟩
 ·exact qa7 1 rfl rfl rfl rfl rfl hok fun L v w D I=>al_B rfl fun c h=>⟨trivial,rfl,c,rfl,qa5 c h⟩
 intro L v1 W1 hL hI
 obtain ⟨b,hb_b,lo_b,R_b⟩:=hI.made0 0 rfl (hL 0 (by decide))
 obtain ⟨r,hb_r,lo_r,R_r⟩:=hI.made0 1 rfl (hL 1 (by decide))
 have ne_b_r:=hI.two 0 1 rfl rfl rfl rfl rfl (hL 0 (by decide)) (hL 1 (by decide)) hb_b hb_r
 have bs_r:=Nat.le_trans hx.size lo_r
 have lt_r:=R_r.lt
 replace hx:=hx.trans hI.keep.to_ext
 clear hI hL hok L
 simp only [putP,Act.put,zA,zB,zC,hb_b,hb_r]
 go_upto_region 1 with fail
 have hok : TrsOk [] W1.heap.size ([(tk (some 6) 0 49 (some 7) (sz 64) (fun u=>u = .agg (pc (fb (Pt.mul (V (f)) (B7)).x) (fb (Pt.mul (V (f)) (B7)).y))))] : List Trk):=⟨by simp [tk],by simp [tk],by simp [tk],by simp [tk]⟩
 refine qag (Inv [] (fun j u=>match j with | 0=>u = .agg (qab (f)) | 1=>u = .agg (pc (fb (B7).x) (fb (B7).y)) | 2=>u = .tuple #[.agg (pc (fb (Pt.mul (V (f)) (B7)).x) (fb (Pt.mul (V (f)) (B7)).y)),.nilIface] | 3=>u = .tuple #[.agg (pc (fb (Pt.mul (V (f)) (B7)).x) (fb (Pt.mul (V (f)) (B7)).y)),.nilIface] | 4=>u = .agg (pc (fb (Pt.mul (V (f)) (B7)).x) (fb (Pt.mul (V (f)) (B7)).y)) | 5=>u = .nilIface | 8=>u = .nilIface | _=>True) [(tk (some 6) 0 49 (some 7) (sz 64) (fun u=>u = .agg (pc (fb (Pt.mul (V (f)) (B7)).x) (fb (Pt.mul (V (f)) (B7)).y))))] W1) qsk [(7,0),(8,1),(9,2),(6,3),(10,4),(11,5),(3,6),(4,8)] 24 (by kernel_rfl) rfl (by kernel_rfl) (Inv.start hok (by simp)) ⟨?_,?_,?_,?_,?_,?_,?_,?_,?_,trivial⟩ ?_
 ·exact sV fun L v w D N I=>ld_B (R_b.keep0 I.keep) _ rfl rfl ldK
 ·exact sV fun L v w D N I=>gcBase _ _ rfl rfl (qaf (qnv w))
 ·exact sV fun L v w D N I=>qmd _ _ rfl rfl (qai (qaf (qjc (f) (B7) w)) (ar2 (I.val 0 (D 0 rfl)) (I.val 1 (D 1 rfl))))
 ·exact sV fun L v w D N I=>⟨(I.val 2 (D 2 rfl)),Ext.refl _⟩
 ·exact sV fun L v w D N I=>qa9 _ _ _ rfl (I.val 3 (D 3 rfl)) _ rfl ⟨rfl,Ext.refl _⟩
 ·exact sV fun L v w D N I=>qa9 _ _ _ rfl (I.val 3 (D 3 rfl)) _ rfl ⟨rfl,Ext.refl _⟩
 ·exact qa7 0 rfl rfl rfl rfl rfl hok fun L v w D I=>qj3 rfl fun c h=>⟨trivial,rfl,c,rfl,qa5 c h⟩
 ·exact qcv 0 6 rfl rfl rfl rfl rfl rfl hok fun L v w D I n cs hb hR ho=>st_P hR (qaq ho) _ _ rfl hb (I.val 4 (D 4 rfl)) fun _ c a b k=>⟨trivial,k,c,a,b⟩
 ·exact sV fun L v w D N I=>⟨(I.val 5 (D 5 rfl)),Ext.refl _⟩
 intro L v2 W2 hL hI
 obtain ⟨p,hb_p,lo_p,R_p⟩:=hI.made 0 rfl (hL 6 (by decide)) (hL 7 (by decide))
 replace R_b:=R_b.keep0 hI.keep
 replace R_r:=R_r.keep0 hI.keep
 have ne_r_p:=Nat.ne_of_lt (Nat.lt_of_lt_of_le lt_r lo_p)
 replace lt_r:=ltk lt_r hI.keep.size
 replace hx:=hx.trans hI.keep.to_ext
 have hs_4_1 : (v2 8) = .nilIface:=hI.val 8 (hL 8 (by decide))
 clear hI hL hok L
 simp only [putP,Act.put,zA,zB,zC,hb_p,hs_4_1]
 go_upto_region 2 with fail
 have hok : TrsOk [] W2.heap.size ([] : List Trk):=⟨by simp [tk],by simp [tk],by simp [tk],by simp [tk]⟩
 refine qac (Inv [] (fun j u=>match j with | 0=>u = .nilIface | 1=>u = .bool (false) | _=>True) [] W2) qsl [(12,0),(13,1)] 24 rfl (by kernel_rfl) (Inv.start0 hok (by simp)) ⟨?_,?_,trivial⟩ ?_
 ·exact sV fun L v w D N I=>⟨rfl,Ext.refl _⟩
 ·intro L v w hL hD hC hI
  refine ⟨fun _=>?_,fun hw=>by cases hw⟩
  have h0 : (v 0) = .nilIface:=hI.val 0 (hD 0 (by decide))
  refine hI.val_step hL (by simp) ?_
  rw [show qaj qsl 1 = [(12,0)] from rfl]
  exact qcf _ _ rfl h0 rfl ⟨rfl,Ext.refl _⟩
 intro L v3 W3 hL hI
 replace R_b:=R_b.keep0 hI.keep
 replace R_r:=R_r.keep0 hI.keep
 replace R_p:=R_p.keep0 hI.keep
 replace lt_r:=ltk lt_r hI.keep.size
 replace hx:=hx.trans hI.keep.to_ext
 have hs_12_2 : (v3 0) = .nilIface:=hI.val 0 (hL 0 (by decide))
 have hs_13_2 : (v3 1) = .bool (false):=hI.val 1 (hL 1 (by decide))
 clear hI hL hok L
 simp only [putP,Act.put,zA,zB,zC,hs_12_2,hs_13_2]
 go_upto_region 4 with fail
 have hok : TrsOk [] W3.heap.size ([(tk (some 5) 0 22 (some 6) (sz 32) (fun u=>u = .agg (qab (encF (Pt.mul (V (f)) (B7)).x (Pt.mul (V (f)) (B7)).y))))] : List Trk):=⟨by simp [tk],by simp [tk],by simp [tk],by simp [tk]⟩
 refine qac (Inv [] (fun j u=>match j with | 0=>u = .agg (pc (fb (Pt.mul (V (f)) (B7)).x) (fb (Pt.mul (V (f)) (B7)).y)) | 1=>u = .tuple #[.agg (qab (encF (Pt.mul (V (f)) (B7)).x (Pt.mul (V (f)) (B7)).y)),.nilIface] | 2=>u = .tuple #[.agg (qab (encF (Pt.mul (V (f)) (B7)).x (Pt.mul (V (f)) (B7)).y)),.nilIface] | 3=>u = .agg (qab (encF (Pt.mul (V (f)) (B7)).x (Pt.mul (V (f)) (B7)).y)) | 4=>u = .nilIface | 7=>u = .nilIface | _=>True) [(tk (some 5) 0 22 (some 6) (sz 32) (fun u=>u = .agg (qab (encF (Pt.mul (V (f)) (B7)).x (Pt.mul (V (f)) (B7)).y))))] W3) qsm [(16,0),(17,1),(15,2),(18,3),(19,4),(5,5),(4,7)] 24 rfl (by kernel_rfl) (Inv.start0 hok (by simp)) ⟨?_,?_,?_,?_,?_,?_,?_,?_,trivial⟩ ?_
 ·exact sV fun L v w D N I=>ld_P (R_p.keep0 I.keep) _ rfl rfl ldK
 ·exact sV fun L v w D N I=>gcEnc _ _ rfl rfl (qai (qaf (enc_pt (Pt.mul (V (f)) (B7)) w)) (ar1 (I.val 0 (D 0 rfl))))
 ·exact sV fun L v w D N I=>⟨(I.val 1 (D 1 rfl)),Ext.refl _⟩
 ·exact sV fun L v w D N I=>qa9 _ _ _ rfl (I.val 2 (D 2 rfl)) _ rfl ⟨rfl,Ext.refl _⟩
 ·exact sV fun L v w D N I=>qa9 _ _ _ rfl (I.val 2 (D 2 rfl)) _ rfl ⟨rfl,Ext.refl _⟩
 ·exact qa7 0 rfl rfl rfl rfl rfl hok fun L v w D I=>al_B rfl fun c h=>⟨trivial,rfl,c,rfl,qa5 c h⟩
 ·exact qcv 0 5 rfl rfl rfl rfl rfl rfl hok fun L v w D I n cs hb hR ho=>st_B hR (qaq ho) _ _ rfl hb (I.val 3 (D 3 rfl)) fun _ c a b k=>⟨trivial,k,c,a,b⟩
 ·exact sV fun L v w D N I=>⟨(I.val 4 (D 4 rfl)),Ext.refl _⟩
 intro L v4 W4 hL hI
 obtain ⟨n,hb_n,lo_n,R_n⟩:=hI.made 0 rfl (hL 5 (by decide)) (hL 6 (by decide))
 replace R_b:=R_b.keep0 hI.keep
 replace R_r:=R_r.keep0 hI.keep
 replace R_p:=R_p.keep0 hI.keep
 have ne_r_n:=Nat.ne_of_lt (Nat.lt_of_lt_of_le lt_r lo_n)
 replace lt_r:=ltk lt_r hI.keep.size
 replace hx:=hx.trans hI.keep.to_ext
 have hs_4_4 : (v4 7) = .nilIface:=hI.val 7 (hL 7 (by decide))
 clear hI hL hok L
 simp only [putP,Act.put,zA,zB,zC,hb_n,hs_4_4]
 go_upto_region 5 with fail
 have hok : TrsOk [] W4.heap.size ([] : List Trk):=⟨by simp [tk],by simp [tk],by simp [tk],by simp [tk]⟩
 refine qac (Inv [] (fun j u=>match j with | 0=>u = .nilIface | 1=>u = .bool (false) | _=>True) [] W4) qsn [(20,0),(21,1)] 24 rfl (by kernel_rfl) (Inv.start0 hok (by simp)) ⟨?_,?_,trivial⟩ ?_
 ·exact sV fun L v w D N I=>⟨rfl,Ext.refl _⟩
 ·intro L v w hL hD hC hI
  refine ⟨fun _=>?_,fun hw=>by cases hw⟩
  have h0 : (v 0) = .nilIface:=hI.val 0 (hD 0 (by decide))
  refine hI.val_step hL (by simp) ?_
  rw [show qaj qsn 1 = [(20,0)] from rfl]
  exact qcf _ _ rfl h0 rfl ⟨rfl,Ext.refl _⟩
 intro L v5 W5 hL hI
 replace R_b:=R_b.keep0 hI.keep
 replace R_r:=R_r.keep0 hI.keep
 replace R_p:=R_p.keep0 hI.keep
 replace R_n:=R_n.keep0 hI.keep
 replace lt_r:=ltk lt_r hI.keep.size
 replace hx:=hx.trans hI.keep.to_ext
 have hs_20_5 : (v5 0) = .nilIface:=hI.val 0 (hL 0 (by decide))
 have hs_21_5 : (v5 1) = .bool (false):=hI.val 1 (hL 1 (by decide))
 clear hI hL hok L
 simp only [putP,Act.put,zA,zB,zC,hs_20_5,hs_21_5]
 go_upto_region 7 with fail
 have hok : TrsOk [r] W5.heap.size ([(tk (none) r 22 (some 1) (sz 32) (fun u=>u = .agg (qab (encF (Pt.mul (V (f)) (B7)).x (Pt.mul (V (f)) (B7)).y))))] : List Trk):=⟨by simp [tk,R_r.lt],by simp [tk],by simp [tk],by simp [tk]⟩
 refine qac (Inv [r] (fun j u=>match j with | 0=>u = .agg (qab (encF (Pt.mul (V (f)) (B7)).x (Pt.mul (V (f)) (B7)).y)) | _=>True) [(tk (none) r 22 (some 1) (sz 32) (fun u=>u = .agg (qab (encF (Pt.mul (V (f)) (B7)).x (Pt.mul (V (f)) (B7)).y))))] W5) qso [(23,0)] 24 rfl (by kernel_rfl) (Inv.start0 hok (by
   simp only [zD,zE,zF,zG,zH]
   exact fun _=>R_r)) ⟨?_,?_,trivial⟩ ?_
 ·exact sV fun L v w D N I=>ld_B (R_n.keep1 I.keep (Ne.symm ne_r_n)) _ rfl rfl ldK
 ·exact s_put 0 rfl rfl rfl rfl rfl hok fun L v w D I cs hR ho=>st_B hR (qaq ho) _ _ rfl rfl (I.val 0 (D 0 rfl)) fun _ c a b k=>⟨trivial,k,c,a,b⟩
 intro L v6 W6 hL hI
 replace R_b:=R_b.keep1 hI.keep ne_b_r
 replace R_p:=R_p.keep1 hI.keep (Ne.symm ne_r_p)
 replace R_n:=R_n.keep1 hI.keep (Ne.symm ne_r_n)
 replace R_r:=hI.new 0 rfl (hL 1 (by decide))
 replace lt_r:=ltk lt_r hI.keep.size
 replace hx:=hx.keep1 hI.keep bs_r
 clear hI hL hok L
 simp only [putP,Act.put,zA,zB,zC]
 go_wp2
 refine bodyPost_ret (qcs rfl _ R_r rfl) rfl ⟨rfl,hx⟩
end Go.Proofs.YtgeihelkkhjjaaaGreatDoor
end
section
namespace Go.Proofs.YtgeihelkkhjjaaaGreatDoor
open Go.RowKit Go.Cv Go.Cv.Pr Go.Cv.Grp
theorem uSe : ∃ fs,Tryz.prog.underlying 35 = some (.struct fs):=⟨_,Tryz.underlying35⟩
theorem iSe : (Tryz.prog.info? 35).map (·.size) = some 64:=by kernel_rfl
theorem fSE0 : faOk Tryz.prog 35 0 0:=⟨_,_,31,Tryz.underlying35,rfl,rfl,by kernel_rfl⟩
theorem fSE1 : faOk Tryz.prog 35 1 32:=⟨_,_,31,Tryz.underlying35,rfl,rfl,by kernel_rfl⟩
section
variable {w : World} {o : Oper} {ev : Operand→Value} {R : Value→World→Prop} {n : Nat} {f g : Nat→UInt8}
theorem ld_S (hR : RV w n 35 (fun u=>u = .agg (pc f g))) (p : Operand) (ho : o.op = .load 35 p) (hx : ev p = .pointer (some ⟨n,0,none⟩)) (h : ∀ u,u = .agg (pc f g)→R u w) : qak Tryz.prog R ((execOp ev o).run Tryz.prog w):=by
 obtain ⟨cs,h1,h2⟩:=hR
 obtain ⟨fs,hu⟩:=uSe
 exact qci _ p ho n hx h1 _ hu rfl (by rw [qbz h2,qa1];exact iSe) (h _ h2)
theorem ld_Sx (hR : RV w n 35 (fun u=>u = .agg (pc f g))) (p : Operand) (ho : o.op = .load 22 p) (hx : ev p = .pointer (some ⟨n,0,none⟩)) (h : ∀ u,u = .agg (qab f)→R u w) : qak Tryz.prog R ((execOp ev o).run Tryz.prog w):=by
 obtain ⟨cs,h1,h2⟩:=hR
 rw [qbz h2] at h1
 exact qa2 _ p ho n 0 hx h1 (qab f).toList (pc_0 f g) _ u22 rfl (by simpa using i22) (h _ (by rw [Array.toArray_toList]))
end
def qsc : List Plan:=[⟨[],[]⟩,⟨[],[]⟩]
def qsd : List Plan:=[⟨[],[]⟩,⟨[0],[(3,0)]⟩,⟨[0,1],[(4,1)]⟩,⟨[0,1,2],[(5,2)]⟩]
theorem qmu (f g : Nat→UInt8) (w : World) :
  Calls Tryz.prog 15 #[.agg (pc f g)] w fun e w'=>e = .returned (.agg (qab (encF (Pt.mul (V f) B7).x (Pt.mul (V f) B7).y)))∧Ext w w':=by
 go_enter Tryz.func15,Tryz.ntmps15
 have hx : Ext w w:=Ext.refl w
 go_upto_region 0 with fail
 have hok : TrsOk [] w.heap.size ([(tk (some 0) 0 35 (none) (fun u=>u = .agg (pc (f) (g))) (fun _=>True)),(tk (some 1) 0 22 (none) (sz 32) (fun _=>True))] : List Trk):=⟨by simp [tk],by simp [tk],by simp [tk],by simp [tk]⟩
 refine qac (Inv [] (fun _ _=>True) [(tk (some 0) 0 35 (none) (fun u=>u = .agg (pc (f) (g))) (fun _=>True)),(tk (some 1) 0 22 (none) (sz 32) (fun _=>True))] w) qsc [(1,0),(2,1)] 6 rfl (by kernel_rfl) (Inv.start0 hok (by simp)) ⟨?_,?_,trivial⟩ ?_
 ·exact qa7 0 rfl rfl rfl rfl rfl hok fun L v w D I=>qba (pcL f g) rfl rfl ⟨trivial,rfl,_,rfl,rfl⟩
 ·exact qa7 1 rfl rfl rfl rfl rfl hok fun L v w D I=>al_B rfl fun c h=>⟨trivial,rfl,c,rfl,qa5 c h⟩
 intro L v1 W1 hL hI
 obtain ⟨b,hb_b,lo_b,R_b⟩:=hI.made0 0 rfl (hL 0 (by decide))
 obtain ⟨r,hb_r,lo_r,R_r⟩:=hI.made0 1 rfl (hL 1 (by decide))
 have ne_b_r:=hI.two 0 1 rfl rfl rfl rfl rfl (hL 0 (by decide)) (hL 1 (by decide)) hb_b hb_r
 have bs_r:=Nat.le_trans hx.size lo_r
 have lt_r:=R_r.lt
 replace hx:=hx.trans hI.keep.to_ext
 clear hI hL hok L
 simp only [putP,Act.put,zA,zB,zC,hb_b,hb_r]
 go_upto_region 1 with fail
 have hok : TrsOk [r] W1.heap.size ([(tk (none) r 22 (some 3) (sz 32) (fun u=>u = .agg (qab (encF (Pt.mul (V (f)) B7).x (Pt.mul (V (f)) B7).y))))] : List Trk):=⟨by simp [tk,R_r.lt],by simp [tk],by simp [tk],by simp [tk]⟩
 refine qac (Inv [r] (fun j u=>match j with | 0=>u = .pointer (some ⟨b,0,none⟩) | 1=>u = .agg (qab (f)) | 2=>u = .agg (qab (encF (Pt.mul (V (f)) B7).x (Pt.mul (V (f)) B7).y)) | _=>True) [(tk (none) r 22 (some 3) (sz 32) (fun u=>u = .agg (qab (encF (Pt.mul (V (f)) B7).x (Pt.mul (V (f)) B7).y))))] W1) qsd [(3,0),(4,1),(5,2)] 6 rfl (by kernel_rfl) (Inv.start0 hok (by
   simp only [zD,zE,zF,zG,zH]
   exact fun _=>R_r)) ⟨?_,?_,?_,?_,trivial⟩ ?_
 ·exact sV fun L v w D N I=>qal rfl rfl fSE0 ⟨rfl,Ext.refl _⟩
 ·exact sV fun L v w D N I=>ld_Sx (R_b.keep1 I.keep ne_b_r) _ rfl (I.val 0 (D 0 rfl)) ldK
 ·intro L v w hL hD hC hI
  refine ⟨fun _=>?_,fun hw=>by cases hw⟩
  have h1 : (v 1) = .agg (qab (f)):=hI.val 1 (hD 1 (by decide))
  refine hI.val_step hL (by simp) ?_
  rw [show qaj qsd 2 = [(4,1)] from rfl]
  refine qei _ _ _ _ rfl rfl Tryz.func17 (by kernel_rfl) (by kernel_rfl) ?_
  refine Calls.mono (calls_eq (qkh (f) w) (args':=#[v 1]) (by rw [h1])) ?_
  rintro e w' ⟨rfl,hx⟩
  exact ⟨_,rfl,rfl,hx⟩
 ·exact s_put 0 rfl rfl rfl rfl rfl hok fun L v w D I cs hR ho=>st_B hR (qaq ho) _ _ rfl rfl (I.val 2 (D 2 rfl)) fun _ c a b k=>⟨trivial,k,c,a,b⟩
 intro L v2 W2 hL hI
 replace R_b:=R_b.keep1 hI.keep ne_b_r
 replace R_r:=hI.new 0 rfl (hL 3 (by decide))
 replace lt_r:=ltk lt_r hI.keep.size
 replace hx:=hx.keep1 hI.keep bs_r
 clear hI hL hok L
 simp only [putP,Act.put,zA,zB,zC]
 go_wp2
 refine bodyPost_ret (qcs rfl _ R_r rfl) rfl ⟨rfl,hx⟩
end Go.Proofs.YtgeihelkkhjjaaaGreatDoor
end
section
namespace Go.Cv
open Go.RowKit Go.Cv.Pr Go.Cv.Grp
theorem sq_ring_ {n : Nat} [NeZero n] (x y d i : Fin n) (h1 : (d * (y * y) + 1) * i = 1) (h : y * y - x * x = 1 + d * (x * x) * (y * y)) : (y * y - 1) * i = x * x:=by grind
theorem den_ring {n : Nat} [NeZero n] (d y i : Fin n) (h : d * (y * y) + 1 = 0) (hi : i * i + 1 = 0) : i * i = d * (y * y):=by grind
theorem den_zero {n : Nat} [NeZero n] (d : Fin n) : d * (0 * 0) + 1 = 1:=by grind
theorem qrk (y : F7) : C7.d * (y * y) + 1 ≠ 0:=fun h=>by
 by_cases hy : y = 0
 ·rw [hy,den_zero] at h
  exact C7.one h
 ·exact C7.nsq C7.i y hy (den_ring _ _ _ h C7.ii)
theorem decU_on {x y : F7} (h : C7.on x y) : decU y = x * x:=sq_ring_ x y C7.d _ (qe6 _ (qrk y)) h
theorem top7 (a b : UInt8) (ha : a.toNat < 128) : ((a ||| b <<< 7) &&& 127) = a∧((a ||| b <<< 7) >>> 7).toNat = b.toNat % 2:=by
 have h1 : (b <<< 7).toNat = 2 ^ 7 * (b.toNat % 2):=by
  rw [show (b <<< 7).toNat = b.toNat * 2 ^ 7 % 256 from qe2 b 7 (by decide)]
  omega
 have h2 : (a ||| b <<< 7).toNat = 2 ^ 7 * (b.toNat % 2) + a.toNat:=by
  rw [UInt8.toNat_or,h1,Nat.or_comm,← Nat.two_pow_add_eq_or_of_lt (by simpa using ha)]
 refine ⟨?_,?_⟩
 ·apply UInt8.toNat_inj.1
  rw [UInt8.toNat_and,h2]
  show (2 ^ 7 * (b.toNat % 2) + a.toNat) &&& (2 ^ 7 - 1) = _
  rw [Nat.and_two_pow_sub_one_eq_mod]
  omega
 ·rw [show ((a ||| b <<< 7) >>> 7).toNat = (a ||| b <<< 7).toNat / 2 ^ 7 from qc9 _ 7 (by decide),h2]
  omega
theorem fb_top (y : F7) : (fb y 31).toNat < 128:=by
 have h:=y.isLt
 have hp : pp < 2 ^ 255:=by unfold pp;decide
 show (UInt8.ofNat (y.val / 2 ^ (8 * 31))).toNat < 128
 rw [UInt8.toNat_ofNat']
 have : y.val / 2 ^ (8 * 31) < 128:=by
  rw [Nat.div_lt_iff_lt_mul (Nat.two_pow_pos _)]
  exact Nat.lt_trans h (Nat.lt_of_lt_of_le hp (by decide))
 omega
theorem fb_low (x : F7) : (fb x 0).toNat % 2 = x.val % 2:=by
 show (UInt8.ofNat (x.val / 2 ^ (8 * 0))).toNat % 2 = _
 rw [UInt8.toNat_ofNat']
 simp only [Nat.mul_zero,Nat.pow_zero,Nat.div_one]
 omega
theorem qri (x y : F7) : encF x y 31 = fb y 31 ||| fb x 0 <<< 7:=by
 unfold encF updb
 exact if_pos rfl
theorem decG_enc (x y : F7) : ∀ i,i < 32→decG (encF x y) i = fb y i:=by
 intro i hi
 unfold decG
 by_cases h : i = 31
 ·subst h
  rw [show updb (encF x y) 31 (encF x y 31 &&& 127) 31 = encF x y 31 &&& 127 from if_pos rfl,qri]
  exact (top7 _ _ (fb_top y)).1
 ·rw [show updb (encF x y) 31 (encF x y 31 &&& 127) i = encF x y i from if_neg h]
  exact if_neg h
theorem qnq (x y : F7) : V (decG (encF x y)) = y.val:=by
 rw [show V (decG (encF x y)) = V (fb y) from qb8 32 (decG_enc x y),V_fb]
theorem qnp (x y : F7) : decY (encF x y) = y:=by
 unfold decY
 rw [qnq,qea]
theorem enc_odd (x y : F7) : (encF x y 31 >>> 7 == 1) = decide (x.val % 2 = 1):=by
 rw [qri]
 have h:=(top7 (fb y 31) (fb x 0) (fb_top y)).2
 rw [fb_low] at h
 generalize ((fb y 31 ||| fb x 0 <<< 7) >>> 7) = o at *
 by_cases hx : x.val % 2 = 1
 ·rw [decide_eq_true hx,beq_iff_eq]
  apply UInt8.toNat_inj.1
  rw [h,hx];rfl
 ·rw [decide_eq_false hx,beq_eq_false_iff_ne]
  intro e
  rw [e] at h
  have : (1 : UInt8).toNat = 1:=rfl
  omega
theorem qqc (x : F7) : 0 - (0 - x) = x:=by grind
theorem qog (x : F7) (h : 0 - x = 0) : x = 0:=by grind
theorem decX_enc (P : P7) : decX (encF P.x P.y) = some P.x:=by
 obtain ⟨x,y,on⟩:=P
 have hU:=decU_on on
 unfold decX
 rw [qnp,qnq,if_pos y.isLt,hU,if_pos (okF_sq rfl),enc_odd]
 by_cases hx : x.val % 2 = 1
 ·have hr : rtF (x * x) = 0 - x:=by
   rcases qpp (x:=x * x) (y:=x) rfl with h | h
   ·have:=qm1 (x * x)
    rw [h] at this;omega
   ·exact h
  have hx0 : x ≠ 0:=fun h=>by rw [h] at hx;exact absurd hx (by decide)
  rw [if_pos (decide_eq_true hx),hr,if_neg (fun h=>hx0 (qog x h)),qqc]
 ·rw [if_neg (by rw [decide_eq_false hx];decide),qpq rfl (by omega)]
end Go.Cv
end
section
namespace Go.Cv
open Go.RowKit Go.Cv.Pr Go.Cv.Grp
theorem qn2 (a k r : Nat) : (Pt.mul ((k * a + r) % ordN) B7).add (Pt.mul k (Pt.mul a B7).neg) = Pt.mul r B7:=by
 have h1 : Pt.mul ((k * a + r) % ordN) B7 = (Pt.mul k (Pt.mul a B7)).add (Pt.mul r B7):=by
  rw [Pt.mul_mod qjs,Pt.mul_add,Nat.mul_comm,Pt.mul_mul]
 have h2 : (Pt.mul k (Pt.mul a B7)).add (Pt.mul k (Pt.mul a B7).neg) = Pt.zero C7:=by
  rw [← Pt.mul_sum,Pt.add_neg,Pt.mul_zero]
 rw [h1,Pt.add_comm (Pt.mul k (Pt.mul a B7)),Pt.add_assoc,h2,Pt.add_zero]
theorem qqd {P Q : P7} (h : P.add Q = Pt.zero C7) : P.neg = Q:=by
 have h1 : (Q.add P).add P.neg = Q:=by rw [Pt.add_assoc,Pt.add_neg,Pt.add_zero]
 rw [Pt.add_comm Q P,h,Pt.zero_add] at h1
 exact h1
theorem neg_mul (a : Nat) : (Pt.mul a B7).neg = Pt.mul ((ordN - 1) * a) B7:=by
 refine qqd ?_
 rw [← Pt.mul_add]
 have e : a + (ordN - 1) * a = ordN * a:=by
  have : 1 ≤ ordN:=by decide
  obtain ⟨m,hm⟩ : ∃ m,ordN = m + 1:=⟨ordN - 1,by omega⟩
  rw [hm,Nat.add_sub_cancel,Nat.succ_mul,Nat.add_comm]
 rw [e,Pt.mul_mul,qjs,Pt.mul_zero]
theorem check_is (S k a : Nat) : (Pt.mul S B7).add (Pt.mul k (Pt.mul a B7).neg) = Pt.mul ((S + (ordN - 1) * a * k) % ordN) B7:=by
 rw [Pt.mul_mod qjs,neg_mul,← Pt.mul_mul,Pt.mul_add]
end Go.Cv
end
