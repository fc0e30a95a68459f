/-
  The curve's points: the double walked.
-/
import Derived.Test.YtgeihelkkhjjaaaGreatDoorKCrvC
set_option linter.unusedSimpArgs false
set_option linter.unusedVariables false
set_option maxRecDepth 20000
set_option maxHeartbeats 8000000
namespace Go.Proofs.YtgeihelkkhjjaaaGreatDoor
open Go.RowKit Go.Cv Go.Cv.Pr Go.Cv.Grp
def qvs : List Plan:=[⟨[],[]⟩,⟨[],[]⟩]
def qvt : List Plan:=[⟨[],[]⟩,⟨[0],[(11,0)]⟩,⟨[0,1],[(12,1)]⟩,⟨[],[]⟩,⟨[3],[(14,3)]⟩,⟨[3,4],[(15,4)]⟩,⟨[0,1,2,3,4,5],[(13,2),(16,5)]⟩,⟨[],[]⟩,⟨[7],[(18,7)]⟩,⟨[7,8],[(19,8)]⟩,⟨[],[]⟩,⟨[10],[(21,10)]⟩,⟨[10,11],[(22,11)]⟩,⟨[0,1,2,3,4,5,6,7,8,9,10,11,12],[(20,9),(23,12)]⟩,⟨[],[]⟩,⟨[14],[(25,14)]⟩,⟨[],[]⟩,⟨[16],[(27,16)]⟩,⟨[0,1,2,3,4,5,6,7,8,9,10,11,12,13,14,15,16,17],[(26,15),(28,17)]⟩,⟨[],[]⟩,⟨[],[]⟩,⟨[],[]⟩,⟨[0,1,2,3,4,5,6,7,8,9,10,11,12,13,14,15,16,17,18,19,20,21],[(17,6),(3,19)]⟩,⟨[0,1,2,3,4,5,6,7,8,9,10,11,12,13,14,15,16,17,18,19,20,21,22],[(24,13),(4,20)]⟩,⟨[0,1,2,3,4,5,6,7,8,9,10,11,12,13,14,15,16,17,18,19,20,21,22,23],[(29,18),(5,21)]⟩]
def qvu : List Plan:=[⟨[],[]⟩,⟨[0],[(30,0)]⟩,⟨[0,1],[(31,1)]⟩,⟨[],[]⟩,⟨[3],[(33,3)]⟩,⟨[3,4],[(34,4)]⟩,⟨[0,1,2,3,4,5],[(32,2),(35,5)]⟩,⟨[],[]⟩,⟨[0,1,2,3,4,5,6,7],[(36,6),(6,7)]⟩]
def qvv : List Plan:=[⟨[],[]⟩,⟨[],[]⟩,⟨[0,1],[(37,0),(38,1)]⟩,⟨[],[]⟩,⟨[0,1,2,3],[(39,2),(40,3)]⟩,⟨[],[]⟩,⟨[0,1,2,3,4,5],[(41,4),(42,5)]⟩,⟨[],[]⟩,⟨[0,1,2,3,4,5,6,7],[(43,6),(7,7)]⟩]
def qvw : List Plan:=[⟨[],[]⟩,⟨[],[]⟩,⟨[0,1],[(44,0),(45,1)]⟩,⟨[],[]⟩,⟨[0,1,2,3],[(46,2),(8,3)]⟩]
def qvx : List Plan:=[⟨[],[]⟩,⟨[],[]⟩,⟨[],[]⟩,⟨[1,2],[(48,1),(49,2)]⟩,⟨[0,1,2,3],[(47,0),(50,3)]⟩,⟨[],[]⟩,⟨[0,1,2,3,4,5],[(51,4),(9,5)]⟩]
def qvy : List Plan:=[⟨[],[]⟩,⟨[],[]⟩,⟨[0,1],[(52,0),(53,1)]⟩,⟨[],[]⟩,⟨[0,1,2,3],[(54,2),(55,3)]⟩,⟨[],[]⟩,⟨[0,1,2,3,4,5],[(56,4),(10,5)]⟩]
def qvz : List Plan:=[⟨[],[]⟩,⟨[],[]⟩,⟨[0,1],[(57,0),(58,1)]⟩,⟨[],[]⟩,⟨[],[]⟩,⟨[0,1,2,3,4],[(60,3),(61,4)]⟩,⟨[0,1,2,3,4,5],[(59,2),(62,5)]⟩,⟨[],[]⟩,⟨[],[]⟩,⟨[0,1,2,3,4,5,7,8],[(64,7),(65,8)]⟩,⟨[],[]⟩,⟨[],[]⟩,⟨[0,1,2,3,4,5,7,8,9,10,11],[(67,10),(68,11)]⟩,⟨[0,1,2,3,4,5,6,7,8,9,10,11,12],[(63,6),(66,9),(69,12)]⟩,⟨[0,1,2,3,4,5,6,7,8,9,10,11,12,13],[(70,13)]⟩]
theorem qcd {u : Value} {P : P7} (hu : isP u P) (w : World) :
  Calls Tryz.prog 74 #[u] w fun e w'=>∃ r,e = .returned r∧isP r (P.add P)∧Ext w w':=by
 obtain ⟨X1,Y1,Z1,T1,hu,hP⟩:=hu
 obtain ⟨c0,rfl,-,-,hc0⟩:=qeh hu
 clear hu
 go_enter Tryz.func74,Tryz.ntmps74
 have hx : Ext w w:=Ext.refl w
 go_upto_region 0 with fail
 have hok : TrsOk [] w.heap.size ([(tk (some 0) 0 105 (none) (fun u=>isW u (X1) (Y1) (Z1) (T1)) (fun _=>True)),(tk (some 1) 0 105 (none) (sz 16) (fun _=>True))] : List Trk):=⟨by simp [tk],by simp [tk],by simp [tk],by simp [tk]⟩
 refine qac (Inv [] (fun _ _=>True) [(tk (some 0) 0 105 (none) (fun u=>isW u (X1) (Y1) (Z1) (T1)) (fun _=>True)),(tk (some 1) 0 105 (none) (sz 16) (fun _=>True))] w) qvs [(1,0),(2,1)] 71 rfl (by kernel_rfl) (Inv.start0 hok (by simp)) ⟨?_,?_,trivial⟩ ?_
 ·exact qa7 0 rfl rfl rfl rfl rfl hok fun L v w D I=>qba c0.toList rfl rfl ⟨trivial,rfl,_,rfl,hc0⟩
 ·exact qa7 1 rfl rfl rfl rfl rfl hok fun L v w D I=>al_W rfl fun c h=>⟨trivial,rfl,c,rfl,qa5 c h⟩
 intro L v1 W1 hL hI
 obtain ⟨bu,hb_bu,lo_bu,R_bu⟩:=hI.made0 0 rfl (hL 0 (by decide))
 obtain ⟨r,hb_r,lo_r,R_r⟩:=hI.made0 1 rfl (hL 1 (by decide))
 have ne_bu_r:=hI.two 0 1 rfl rfl rfl rfl rfl (hL 0 (by decide)) (hL 1 (by decide)) hb_bu hb_r
 have bs_r:=Nat.le_trans hx.size lo_r
 have lt_r:=R_r.lt
 replace hx:=hx.trans hI.keep.to_ext
 clear hI hL hok L
 simp only [putP,Act.put,zA,zB,zC,hb_bu,hb_r]
 go_upto_region 1 with fail
 have hok : TrsOk [] W1.heap.size ([(tk (some 19) 0 101 (some 22) (sz 4) (fun u=>isE u ((X1) * (X1)))),(tk (some 20) 0 101 (some 23) (sz 4) (fun u=>isE u ((Y1) * (Y1)))),(tk (some 21) 0 101 (some 24) (sz 4) (fun u=>isE u ((Z1) * (Z1))))] : List Trk):=⟨by simp [tk],by simp [tk],by simp [tk],by simp [tk]⟩
 refine qag (Inv [] (fun j u=>match j with | 0=>u = .pointer (some ⟨bu,0,none⟩) | 1=>u = .pointer (some ⟨bu,0,none⟩) | 2=>isE u (X1) | 3=>u = .pointer (some ⟨bu,0,none⟩) | 4=>u = .pointer (some ⟨bu,0,none⟩) | 5=>isE u (X1) | 6=>isE u ((X1) * (X1)) | 7=>u = .pointer (some ⟨bu,0,none⟩) | 8=>u = .pointer (some ⟨bu,4,none⟩) | 9=>isE u (Y1) | 10=>u = .pointer (some ⟨bu,0,none⟩) | 11=>u = .pointer (some ⟨bu,4,none⟩) | 12=>isE u (Y1) | 13=>isE u ((Y1) * (Y1)) | 14=>u = .pointer (some ⟨bu,8,none⟩) | 15=>isE u (Z1) | 16=>u = .pointer (some ⟨bu,8,none⟩) | 17=>isE u (Z1) | 18=>isE u ((Z1) * (Z1)) | _=>True) [(tk (some 19) 0 101 (some 22) (sz 4) (fun u=>isE u ((X1) * (X1)))),(tk (some 20) 0 101 (some 23) (sz 4) (fun u=>isE u ((Y1) * (Y1)))),(tk (some 21) 0 101 (some 24) (sz 4) (fun u=>isE u ((Z1) * (Z1))))] W1) qvt [(11,0),(12,1),(13,2),(14,3),(15,4),(16,5),(17,6),(18,7),(19,8),(20,9),(21,10),(22,11),(23,12),(24,13),(25,14),(26,15),(27,16),(28,17),(29,18),(3,19),(4,20),(5,21)] 71 (by kernel_rfl) rfl (by kernel_rfl) (Inv.start hok (by simp)) ⟨?_,?_,?_,?_,?_,?_,?_,?_,?_,?_,?_,?_,?_,?_,?_,?_,?_,?_,?_,?_,?_,?_,?_,?_,?_,trivial⟩ ?_
 ·exact sV fun L v w D N I=>qal rfl rfl fW0 ⟨rfl,Ext.refl _⟩
 ·exact sV fun L v w D N I=>qal rfl (I.val 0 (D 0 rfl)) fFL0 ⟨rfl,Ext.refl _⟩
 ·exact sV fun L v w D N I=>qkw (R_bu.keep0 I.keep) _ rfl (I.val 1 (D 1 rfl)) ldK
 ·exact sV fun L v w D N I=>qal rfl rfl fW0 ⟨rfl,Ext.refl _⟩
 ·exact sV fun L v w D N I=>qal rfl (I.val 3 (D 3 rfl)) fFL0 ⟨rfl,Ext.refl _⟩
 ·exact sV fun L v w D N I=>qkw (R_bu.keep0 I.keep) _ rfl (I.val 4 (D 4 rfl)) ldK
 ·exact sV fun L v w D N I=>gMul _ _ rfl rfl (emul (I.val 2 (D 2 rfl)) (I.val 5 (D 5 rfl)) w)
 ·exact sV fun L v w D N I=>qal rfl rfl fW0 ⟨rfl,Ext.refl _⟩
 ·exact sV fun L v w D N I=>qal rfl (I.val 7 (D 7 rfl)) fFL1 ⟨rfl,Ext.refl _⟩
 ·exact sV fun L v w D N I=>qkv (R_bu.keep0 I.keep) _ rfl (I.val 8 (D 8 rfl)) ldK
 ·exact sV fun L v w D N I=>qal rfl rfl fW0 ⟨rfl,Ext.refl _⟩
 ·exact sV fun L v w D N I=>qal rfl (I.val 10 (D 10 rfl)) fFL1 ⟨rfl,Ext.refl _⟩
 ·exact sV fun L v w D N I=>qkv (R_bu.keep0 I.keep) _ rfl (I.val 11 (D 11 rfl)) ldK
 ·exact sV fun L v w D N I=>gMul _ _ rfl rfl (emul (I.val 9 (D 9 rfl)) (I.val 12 (D 12 rfl)) w)
 ·exact sV fun L v w D N I=>qal rfl rfl fW1 ⟨rfl,Ext.refl _⟩
 ·exact sV fun L v w D N I=>qqv (R_bu.keep0 I.keep) _ rfl (I.val 14 (D 14 rfl)) ldK
 ·exact sV fun L v w D N I=>qal rfl rfl fW1 ⟨rfl,Ext.refl _⟩
 ·exact sV fun L v w D N I=>qqv (R_bu.keep0 I.keep) _ rfl (I.val 16 (D 16 rfl)) ldK
 ·exact sV fun L v w D N I=>gMul _ _ rfl rfl (emul (I.val 15 (D 15 rfl)) (I.val 17 (D 17 rfl)) w)
 ·exact qa7 0 rfl rfl rfl rfl rfl hok fun L v w D I=>al_E rfl fun c h=>⟨trivial,rfl,c,rfl,qa5 c h⟩
 ·exact qa7 1 rfl rfl rfl rfl rfl hok fun L v w D I=>al_E rfl fun c h=>⟨trivial,rfl,c,rfl,qa5 c h⟩
 ·exact qa7 2 rfl rfl rfl rfl rfl hok fun L v w D I=>al_E rfl fun c h=>⟨trivial,rfl,c,rfl,qa5 c h⟩
 ·exact qcv 0 19 rfl rfl rfl rfl rfl rfl hok fun L v w D I n cs hb hR ho=>st_E hR (qaq ho) _ _ rfl hb (I.val 6 (D 6 rfl)) fun _ c a b k=>⟨trivial,k,c,a,b⟩
 ·exact qcv 1 20 rfl rfl rfl rfl rfl rfl hok fun L v w D I n cs hb hR ho=>st_E hR (qaq ho) _ _ rfl hb (I.val 13 (D 13 rfl)) fun _ c a b k=>⟨trivial,k,c,a,b⟩
 ·exact qcv 2 21 rfl rfl rfl rfl rfl rfl hok fun L v w D I n cs hb hR ho=>st_E hR (qaq ho) _ _ rfl hb (I.val 18 (D 18 rfl)) fun _ c a b k=>⟨trivial,k,c,a,b⟩
 intro L v2 W2 hL hI
 obtain ⟨n3,hb_n3,lo_n3,R_n3⟩:=hI.made 0 rfl (hL 19 (by decide)) (hL 22 (by decide))
 obtain ⟨n4,hb_n4,lo_n4,R_n4⟩:=hI.made 1 rfl (hL 20 (by decide)) (hL 23 (by decide))
 obtain ⟨n5,hb_n5,lo_n5,R_n5⟩:=hI.made 2 rfl (hL 21 (by decide)) (hL 24 (by decide))
 replace R_bu:=R_bu.keep0 hI.keep
 replace R_r:=R_r.keep0 hI.keep
 have ne_r_n3:=Nat.ne_of_lt (Nat.lt_of_lt_of_le lt_r lo_n3)
 have ne_r_n4:=Nat.ne_of_lt (Nat.lt_of_lt_of_le lt_r lo_n4)
 have ne_r_n5:=Nat.ne_of_lt (Nat.lt_of_lt_of_le lt_r lo_n5)
 replace lt_r:=ltk lt_r hI.keep.size
 replace hx:=hx.trans hI.keep.to_ext
 clear hI hL hok L
 obtain ⟨a,q_a⟩ : ∃ x,x = (X1) * (X1):=⟨_,rfl⟩
 rw [← q_a] at R_n3
 replace q_a:=Lib.hid q_a
 obtain ⟨b,q_b⟩ : ∃ x,x = (Y1) * (Y1):=⟨_,rfl⟩
 rw [← q_b] at R_n4
 replace q_b:=Lib.hid q_b
 obtain ⟨c,q_c⟩ : ∃ x,x = (Z1) * (Z1):=⟨_,rfl⟩
 rw [← q_c] at R_n5
 replace q_c:=Lib.hid q_c
 simp only [putP,Act.put,zA,zB,zC,hb_n3,hb_n4,hb_n5]
 go_upto_region 2 with fail
 have hok : TrsOk [] W2.heap.size ([(tk (some 7) 0 101 (some 8) (sz 4) (fun u=>isE u ((X1) + (Y1))))] : List Trk):=⟨by simp [tk],by simp [tk],by simp [tk],by simp [tk]⟩
 refine qac (Inv [] (fun j u=>match j with | 0=>u = .pointer (some ⟨bu,0,none⟩) | 1=>u = .pointer (some ⟨bu,0,none⟩) | 2=>isE u (X1) | 3=>u = .pointer (some ⟨bu,0,none⟩) | 4=>u = .pointer (some ⟨bu,4,none⟩) | 5=>isE u (Y1) | 6=>isE u ((X1) + (Y1)) | _=>True) [(tk (some 7) 0 101 (some 8) (sz 4) (fun u=>isE u ((X1) + (Y1))))] W2) qvu [(30,0),(31,1),(32,2),(33,3),(34,4),(35,5),(36,6),(6,7)] 71 rfl (by kernel_rfl) (Inv.start0 hok (by simp)) ⟨?_,?_,?_,?_,?_,?_,?_,?_,?_,trivial⟩ ?_
 ·exact sV fun L v w D N I=>qal rfl rfl fW0 ⟨rfl,Ext.refl _⟩
 ·exact sV fun L v w D N I=>qal rfl (I.val 0 (D 0 rfl)) fFL0 ⟨rfl,Ext.refl _⟩
 ·exact sV fun L v w D N I=>qkw (R_bu.keep0 I.keep) _ rfl (I.val 1 (D 1 rfl)) ldK
 ·exact sV fun L v w D N I=>qal rfl rfl fW0 ⟨rfl,Ext.refl _⟩
 ·exact sV fun L v w D N I=>qal rfl (I.val 3 (D 3 rfl)) fFL1 ⟨rfl,Ext.refl _⟩
 ·exact sV fun L v w D N I=>qkv (R_bu.keep0 I.keep) _ rfl (I.val 4 (D 4 rfl)) ldK
 ·exact sV fun L v w D N I=>gAdd _ _ rfl rfl (eadd (I.val 2 (D 2 rfl)) (I.val 5 (D 5 rfl)) w)
 ·exact qa7 0 rfl rfl rfl rfl rfl hok fun L v w D I=>al_E rfl fun c h=>⟨trivial,rfl,c,rfl,qa5 c h⟩
 ·exact qcv 0 7 rfl rfl rfl rfl rfl rfl hok fun L v w D I n cs hb hR ho=>st_E hR (qaq ho) _ _ rfl hb (I.val 6 (D 6 rfl)) fun _ c a b k=>⟨trivial,k,c,a,b⟩
 intro L v3 W3 hL hI
 obtain ⟨n6,hb_n6,lo_n6,R_n6⟩:=hI.made 0 rfl (hL 7 (by decide)) (hL 8 (by decide))
 replace R_bu:=R_bu.keep0 hI.keep
 replace R_r:=R_r.keep0 hI.keep
 replace R_n3:=R_n3.keep0 hI.keep
 replace R_n4:=R_n4.keep0 hI.keep
 replace R_n5:=R_n5.keep0 hI.keep
 have ne_r_n6:=Nat.ne_of_lt (Nat.lt_of_lt_of_le lt_r lo_n6)
 replace lt_r:=ltk lt_r hI.keep.size
 replace hx:=hx.trans hI.keep.to_ext
 clear hI hL hok L
 obtain ⟨s,q_s⟩ : ∃ x,x = (X1) + (Y1):=⟨_,rfl⟩
 rw [← q_s] at R_n6
 replace q_s:=Lib.hid q_s
 simp only [putP,Act.put,zA,zB,zC,hb_n6]
 go_upto_region 3 with fail
 have hok : TrsOk [] W3.heap.size ([(tk (some 7) 0 101 (some 8) (sz 4) (fun u=>isE u ((((s) * (s)) - (a)) - (b))))] : List Trk):=⟨by simp [tk],by simp [tk],by simp [tk],by simp [tk]⟩
 refine qag (Inv [] (fun j u=>match j with | 0=>isE u (s) | 1=>isE u (s) | 2=>isE u ((s) * (s)) | 3=>isE u (a) | 4=>isE u (((s) * (s)) - (a)) | 5=>isE u (b) | 6=>isE u ((((s) * (s)) - (a)) - (b)) | _=>True) [(tk (some 7) 0 101 (some 8) (sz 4) (fun u=>isE u ((((s) * (s)) - (a)) - (b))))] W3) qvv [(37,0),(38,1),(39,2),(40,3),(41,4),(42,5),(43,6),(7,7)] 71 (by kernel_rfl) rfl (by kernel_rfl) (Inv.start hok (by simp)) ⟨?_,?_,?_,?_,?_,?_,?_,?_,?_,trivial⟩ ?_
 ·exact sV fun L v w D N I=>ld_E (R_n6.keep0 I.keep) _ rfl rfl ldK
 ·exact sV fun L v w D N I=>ld_E (R_n6.keep0 I.keep) _ rfl rfl ldK
 ·exact sV fun L v w D N I=>gMul _ _ rfl rfl (emul (I.val 0 (D 0 rfl)) (I.val 1 (D 1 rfl)) w)
 ·exact sV fun L v w D N I=>ld_E (R_n3.keep0 I.keep) _ rfl rfl ldK
 ·exact sV fun L v w D N I=>gSub _ _ rfl rfl (esub (I.val 2 (D 2 rfl)) (I.val 3 (D 3 rfl)) w)
 ·exact sV fun L v w D N I=>ld_E (R_n4.keep0 I.keep) _ rfl rfl ldK
 ·exact sV fun L v w D N I=>gSub _ _ rfl rfl (esub (I.val 4 (D 4 rfl)) (I.val 5 (D 5 rfl)) w)
 ·exact qa7 0 rfl rfl rfl rfl rfl hok fun L v w D I=>al_E rfl fun c h=>⟨trivial,rfl,c,rfl,qa5 c h⟩
 ·exact qcv 0 7 rfl rfl rfl rfl rfl rfl hok fun L v w D I n cs hb hR ho=>st_E hR (qaq ho) _ _ rfl hb (I.val 6 (D 6 rfl)) fun _ c a b k=>⟨trivial,k,c,a,b⟩
 intro L v4 W4 hL hI
 obtain ⟨n7,hb_n7,lo_n7,R_n7⟩:=hI.made 0 rfl (hL 7 (by decide)) (hL 8 (by decide))
 replace R_bu:=R_bu.keep0 hI.keep
 replace R_r:=R_r.keep0 hI.keep
 replace R_n3:=R_n3.keep0 hI.keep
 replace R_n4:=R_n4.keep0 hI.keep
 replace R_n5:=R_n5.keep0 hI.keep
 replace R_n6:=R_n6.keep0 hI.keep
 have ne_r_n7:=Nat.ne_of_lt (Nat.lt_of_lt_of_le lt_r lo_n7)
 replace lt_r:=ltk lt_r hI.keep.size
 replace hx:=hx.trans hI.keep.to_ext
 clear hI hL hok L
 obtain ⟨e,q_e⟩ : ∃ x,x = (((s) * (s)) - (a)) - (b):=⟨_,rfl⟩
 rw [← q_e] at R_n7
 replace q_e:=Lib.hid q_e
 simp only [putP,Act.put,zA,zB,zC,hb_n7]
 go_upto_region 4 with fail
 have hok : TrsOk [] W4.heap.size ([(tk (some 3) 0 101 (some 4) (sz 4) (fun u=>isE u ((b) - (a))))] : List Trk):=⟨by simp [tk],by simp [tk],by simp [tk],by simp [tk]⟩
 refine qac (Inv [] (fun j u=>match j with | 0=>isE u (b) | 1=>isE u (a) | 2=>isE u ((b) - (a)) | _=>True) [(tk (some 3) 0 101 (some 4) (sz 4) (fun u=>isE u ((b) - (a))))] W4) qvw [(44,0),(45,1),(46,2),(8,3)] 71 rfl (by kernel_rfl) (Inv.start0 hok (by simp)) ⟨?_,?_,?_,?_,?_,trivial⟩ ?_
 ·exact sV fun L v w D N I=>ld_E (R_n4.keep0 I.keep) _ rfl rfl ldK
 ·exact sV fun L v w D N I=>ld_E (R_n3.keep0 I.keep) _ rfl rfl ldK
 ·exact sV fun L v w D N I=>gSub _ _ rfl rfl (esub (I.val 0 (D 0 rfl)) (I.val 1 (D 1 rfl)) w)
 ·exact qa7 0 rfl rfl rfl rfl rfl hok fun L v w D I=>al_E rfl fun c h=>⟨trivial,rfl,c,rfl,qa5 c h⟩
 ·exact qcv 0 3 rfl rfl rfl rfl rfl rfl hok fun L v w D I n cs hb hR ho=>st_E hR (qaq ho) _ _ rfl hb (I.val 2 (D 2 rfl)) fun _ c a b k=>⟨trivial,k,c,a,b⟩
 intro L v5 W5 hL hI
 obtain ⟨n8,hb_n8,lo_n8,R_n8⟩:=hI.made 0 rfl (hL 3 (by decide)) (hL 4 (by decide))
 replace R_bu:=R_bu.keep0 hI.keep
 replace R_r:=R_r.keep0 hI.keep
 replace R_n3:=R_n3.keep0 hI.keep
 replace R_n4:=R_n4.keep0 hI.keep
 replace R_n5:=R_n5.keep0 hI.keep
 replace R_n6:=R_n6.keep0 hI.keep
 replace R_n7:=R_n7.keep0 hI.keep
 have ne_r_n8:=Nat.ne_of_lt (Nat.lt_of_lt_of_le lt_r lo_n8)
 replace lt_r:=ltk lt_r hI.keep.size
 replace hx:=hx.trans hI.keep.to_ext
 clear hI hL hok L
 obtain ⟨g,q_g⟩ : ∃ x,x = (b) - (a):=⟨_,rfl⟩
 rw [← q_g] at R_n8
 replace q_g:=Lib.hid q_g
 simp only [putP,Act.put,zA,zB,zC,hb_n8]
 go_upto_region 5 with fail
 have hok : TrsOk [] W5.heap.size ([(tk (some 5) 0 101 (some 6) (sz 4) (fun u=>isE u ((g) - ((c) + (c)))))] : List Trk):=⟨by simp [tk],by simp [tk],by simp [tk],by simp [tk]⟩
 refine qag (Inv [] (fun j u=>match j with | 0=>isE u (g) | 1=>isE u (c) | 2=>isE u (c) | 3=>isE u ((c) + (c)) | 4=>isE u ((g) - ((c) + (c))) | _=>True) [(tk (some 5) 0 101 (some 6) (sz 4) (fun u=>isE u ((g) - ((c) + (c)))))] W5) qvx [(47,0),(48,1),(49,2),(50,3),(51,4),(9,5)] 71 (by kernel_rfl) rfl (by kernel_rfl) (Inv.start hok (by simp)) ⟨?_,?_,?_,?_,?_,?_,?_,trivial⟩ ?_
 ·exact sV fun L v w D N I=>ld_E (R_n8.keep0 I.keep) _ rfl rfl ldK
 ·exact sV fun L v w D N I=>ld_E (R_n5.keep0 I.keep) _ rfl rfl ldK
 ·exact sV fun L v w D N I=>ld_E (R_n5.keep0 I.keep) _ rfl rfl ldK
 ·exact sV fun L v w D N I=>gAdd _ _ rfl rfl (eadd (I.val 1 (D 1 rfl)) (I.val 2 (D 2 rfl)) w)
 ·exact sV fun L v w D N I=>gSub _ _ rfl rfl (esub (I.val 0 (D 0 rfl)) (I.val 3 (D 3 rfl)) w)
 ·exact qa7 0 rfl rfl rfl rfl rfl hok fun L v w D I=>al_E rfl fun c h=>⟨trivial,rfl,c,rfl,qa5 c h⟩
 ·exact qcv 0 5 rfl rfl rfl rfl rfl rfl hok fun L v w D I n cs hb hR ho=>st_E hR (qaq ho) _ _ rfl hb (I.val 4 (D 4 rfl)) fun _ c a b k=>⟨trivial,k,c,a,b⟩
 intro L v6 W6 hL hI
 obtain ⟨n9,hb_n9,lo_n9,R_n9⟩:=hI.made 0 rfl (hL 5 (by decide)) (hL 6 (by decide))
 replace R_bu:=R_bu.keep0 hI.keep
 replace R_r:=R_r.keep0 hI.keep
 replace R_n3:=R_n3.keep0 hI.keep
 replace R_n4:=R_n4.keep0 hI.keep
 replace R_n5:=R_n5.keep0 hI.keep
 replace R_n6:=R_n6.keep0 hI.keep
 replace R_n7:=R_n7.keep0 hI.keep
 replace R_n8:=R_n8.keep0 hI.keep
 have ne_r_n9:=Nat.ne_of_lt (Nat.lt_of_lt_of_le lt_r lo_n9)
 replace lt_r:=ltk lt_r hI.keep.size
 replace hx:=hx.trans hI.keep.to_ext
 clear hI hL hok L
 obtain ⟨f,q_f⟩ : ∃ x,x = (g) - ((c) + (c)):=⟨_,rfl⟩
 rw [← q_f] at R_n9
 replace q_f:=Lib.hid q_f
 simp only [putP,Act.put,zA,zB,zC,hb_n9]
 go_upto_region 6 with fail
 have hok : TrsOk [] W6.heap.size ([(tk (some 5) 0 101 (some 6) (sz 4) (fun u=>isE u (((0) - (a)) - (b))))] : List Trk):=⟨by simp [tk],by simp [tk],by simp [tk],by simp [tk]⟩
 refine qag (Inv [] (fun j u=>match j with | 0=>isE u (0) | 1=>isE u (a) | 2=>isE u ((0) - (a)) | 3=>isE u (b) | 4=>isE u (((0) - (a)) - (b)) | _=>True) [(tk (some 5) 0 101 (some 6) (sz 4) (fun u=>isE u (((0) - (a)) - (b))))] W6) qvy [(52,0),(53,1),(54,2),(55,3),(56,4),(10,5)] 71 (by kernel_rfl) rfl (by kernel_rfl) (Inv.start hok (by simp)) ⟨?_,?_,?_,?_,?_,?_,?_,trivial⟩ ?_
 ·exact sV fun L v w D N I=>bd_E0 rfl ldK
 ·exact sV fun L v w D N I=>ld_E (R_n3.keep0 I.keep) _ rfl rfl ldK
 ·exact sV fun L v w D N I=>gSub _ _ rfl rfl (esub (I.val 0 (D 0 rfl)) (I.val 1 (D 1 rfl)) w)
 ·exact sV fun L v w D N I=>ld_E (R_n4.keep0 I.keep) _ rfl rfl ldK
 ·exact sV fun L v w D N I=>gSub _ _ rfl rfl (esub (I.val 2 (D 2 rfl)) (I.val 3 (D 3 rfl)) w)
 ·exact qa7 0 rfl rfl rfl rfl rfl hok fun L v w D I=>al_E rfl fun c h=>⟨trivial,rfl,c,rfl,qa5 c h⟩
 ·exact qcv 0 5 rfl rfl rfl rfl rfl rfl hok fun L v w D I n cs hb hR ho=>st_E hR (qaq ho) _ _ rfl hb (I.val 4 (D 4 rfl)) fun _ c a b k=>⟨trivial,k,c,a,b⟩
 intro L v7 W7 hL hI
 obtain ⟨n10,hb_n10,lo_n10,R_n10⟩:=hI.made 0 rfl (hL 5 (by decide)) (hL 6 (by decide))
 replace R_bu:=R_bu.keep0 hI.keep
 replace R_r:=R_r.keep0 hI.keep
 replace R_n3:=R_n3.keep0 hI.keep
 replace R_n4:=R_n4.keep0 hI.keep
 replace R_n5:=R_n5.keep0 hI.keep
 replace R_n6:=R_n6.keep0 hI.keep
 replace R_n7:=R_n7.keep0 hI.keep
 replace R_n8:=R_n8.keep0 hI.keep
 replace R_n9:=R_n9.keep0 hI.keep
 have ne_r_n10:=Nat.ne_of_lt (Nat.lt_of_lt_of_le lt_r lo_n10)
 replace lt_r:=ltk lt_r hI.keep.size
 replace hx:=hx.trans hI.keep.to_ext
 clear hI hL hok L
 obtain ⟨h,q_h⟩ : ∃ x,x = ((0) - (a)) - (b):=⟨_,rfl⟩
 rw [← q_h] at R_n10
 replace q_h:=Lib.hid q_h
 simp only [putP,Act.put,zA,zB,zC,hb_n10]
 go_upto_region 7 with fail
 have hok : TrsOk [r] W7.heap.size ([(tk (none) r 105 (some 14) (sz 16) (fun u=>isW u ((e) * (f)) ((g) * (h)) ((f) * (g)) ((e) * (h))))] : List Trk):=⟨by simp [tk,R_r.lt],by simp [tk],by simp [tk],by simp [tk]⟩
 refine qag (Inv [r] (fun j u=>match j with | 0=>isE u (e) | 1=>isE u (f) | 2=>isE u ((e) * (f)) | 3=>isE u (g) | 4=>isE u (h) | 5=>isE u ((g) * (h)) | 6=>isFl u ((e) * (f)) ((g) * (h)) | 7=>isE u (f) | 8=>isE u (g) | 9=>isE u ((f) * (g)) | 10=>isE u (e) | 11=>isE u (h) | 12=>isE u ((e) * (h)) | 13=>isW u ((e) * (f)) ((g) * (h)) ((f) * (g)) ((e) * (h)) | _=>True) [(tk (none) r 105 (some 14) (sz 16) (fun u=>isW u ((e) * (f)) ((g) * (h)) ((f) * (g)) ((e) * (h))))] W7) qvz [(57,0),(58,1),(59,2),(60,3),(61,4),(62,5),(63,6),(64,7),(65,8),(66,9),(67,10),(68,11),(69,12),(70,13)] 71 (by kernel_rfl) rfl (by kernel_rfl) (Inv.start hok (by
   simp only [zD,zE,zF,zG,zH]
   exact fun _=>R_r)) ⟨?_,?_,?_,?_,?_,?_,?_,?_,?_,?_,?_,?_,?_,?_,?_,trivial⟩ ?_
 ·exact sV fun L v w D N I=>ld_E (R_n7.keep1 I.keep (Ne.symm ne_r_n7)) _ rfl rfl ldK
 ·exact sV fun L v w D N I=>ld_E (R_n9.keep1 I.keep (Ne.symm ne_r_n9)) _ rfl rfl ldK
 ·exact sV fun L v w D N I=>gMul _ _ rfl rfl (emul (I.val 0 (D 0 rfl)) (I.val 1 (D 1 rfl)) w)
 ·exact sV fun L v w D N I=>ld_E (R_n8.keep1 I.keep (Ne.symm ne_r_n8)) _ rfl rfl ldK
 ·exact sV fun L v w D N I=>ld_E (R_n10.keep1 I.keep (Ne.symm ne_r_n10)) _ rfl rfl ldK
 ·exact sV fun L v w D N I=>gMul _ _ rfl rfl (emul (I.val 3 (D 3 rfl)) (I.val 4 (D 4 rfl)) w)
 ·exact sV fun L v w D N I=>bd_FL _ _ rfl (I.val 2 (D 2 rfl)) (I.val 5 (D 5 rfl)) ldK
 ·exact sV fun L v w D N I=>ld_E (R_n9.keep1 I.keep (Ne.symm ne_r_n9)) _ rfl rfl ldK
 ·exact sV fun L v w D N I=>ld_E (R_n8.keep1 I.keep (Ne.symm ne_r_n8)) _ rfl rfl ldK
 ·exact sV fun L v w D N I=>gMul _ _ rfl rfl (emul (I.val 7 (D 7 rfl)) (I.val 8 (D 8 rfl)) w)
 ·exact sV fun L v w D N I=>ld_E (R_n7.keep1 I.keep (Ne.symm ne_r_n7)) _ rfl rfl ldK
 ·exact sV fun L v w D N I=>ld_E (R_n10.keep1 I.keep (Ne.symm ne_r_n10)) _ rfl rfl ldK
 ·exact sV fun L v w D N I=>gMul _ _ rfl rfl (emul (I.val 10 (D 10 rfl)) (I.val 11 (D 11 rfl)) w)
 ·exact sV fun L v w D N I=>bd_W _ _ _ rfl (I.val 6 (D 6 rfl)) (I.val 9 (D 9 rfl)) (I.val 12 (D 12 rfl)) ldK
 ·exact s_put 0 rfl rfl rfl rfl rfl hok fun L v w D I cs hR ho=>st_W hR (qaq ho) _ _ rfl rfl (I.val 13 (D 13 rfl)) fun _ c a b k=>⟨trivial,k,c,a,b⟩
 intro L v8 W8 hL hI
 replace R_bu:=R_bu.keep1 hI.keep ne_bu_r
 replace R_n3:=R_n3.keep1 hI.keep (Ne.symm ne_r_n3)
 replace R_n4:=R_n4.keep1 hI.keep (Ne.symm ne_r_n4)
 replace R_n5:=R_n5.keep1 hI.keep (Ne.symm ne_r_n5)
 replace R_n6:=R_n6.keep1 hI.keep (Ne.symm ne_r_n6)
 replace R_n7:=R_n7.keep1 hI.keep (Ne.symm ne_r_n7)
 replace R_n8:=R_n8.keep1 hI.keep (Ne.symm ne_r_n8)
 replace R_n9:=R_n9.keep1 hI.keep (Ne.symm ne_r_n9)
 replace R_n10:=R_n10.keep1 hI.keep (Ne.symm ne_r_n10)
 replace R_r:=hI.new 0 rfl (hL 14 (by decide))
 replace lt_r:=ltk lt_r hI.keep.size
 replace hx:=hx.keep1 hI.keep bs_r
 clear hI hL hok L
 simp only [putP,Act.put,zA,zB,zC]
 go_wp2
 obtain ⟨cs,hr,hv⟩:=R_r
 replace hv : isW (Value.agg (List.toArray cs)) ((e) * (f)) ((g) * (h)) ((f) * (g)) ((e) * (h)):=hv
 obtain ⟨fs,hu'⟩:=uWd
 refine bodyPost_ret (results_cell_row (p:=2) (ty:=105) rfl _ _ r 105 _ (0,0) _ rfl hr hu' rfl (by rw [List.size_toArray,qg0 hv];exact iWd)) rfl ?_
 exact ⟨_,rfl,⟨_,_,_,_,hv,Rep.double hP q_a.out q_b.out q_c.out q_s.out q_e.out q_g.out q_f.out q_h.out⟩,hx⟩
end Go.Proofs.YtgeihelkkhjjaaaGreatDoor
