/-
  Texts of the lemmas below the claim, put together: Ans TimI Tim Rdc.
-/
import Derived.Test.YtgeihelkkhjjaaaGreatDoorKAnsE
import Derived.Test.YtgeihelkkhjjaaaGreatDoorKDec
import Derived.Test.YtgeihelkkhjjaaaGreatDoorKGiv
set_option linter.unusedSimpArgs false
set_option linter.unusedVariables false
set_option maxRecDepth 20000
set_option maxHeartbeats 8000000
section
namespace Go.Proofs.YtgeihelkkhjjaaaGreatDoor
open Go.RowKit Go.Cv Go.Cv.Pr Go.Cv.Grp Go.Cv.Dig
def qtf : List Plan:=[⟨[],[]⟩,⟨[0],[(17,0)]⟩,⟨[],[]⟩,⟨[2],[(19,2)]⟩,⟨[0,1,2,3],[(18,1),(20,3)]⟩,⟨[0,1,2,3,4],[(21,4)]⟩]
def qth : List Plan:=[⟨[],[]⟩,⟨[],[]⟩,⟨[0,1],[(22,0),(23,1)]⟩,⟨[0,1,2],[(24,2)]⟩]
def qti : List Plan:=[⟨[],[]⟩,⟨[0],[(25,0)]⟩,⟨[],[]⟩,⟨[2],[(27,2)]⟩,⟨[0,1,2,3],[(26,1),(28,3)]⟩,⟨[0,1,2,3,4],[(29,4)]⟩]
def qtj : List Plan:=[⟨[],[]⟩,⟨[0],[(30,0)]⟩,⟨[],[]⟩,⟨[2],[(32,2)]⟩,⟨[0,1,2,3],[(31,1),(33,3)]⟩,⟨[0,1,2,3,4],[(34,4)]⟩]
def qtk : List Plan:=[⟨[],[]⟩,⟨[],[]⟩,⟨[],[]⟩,⟨[1,2],[(36,1),(37,2)]⟩,⟨[0,1,2,3],[(35,0),(38,3)]⟩,⟨[0,1,2,3,4],[(39,4)]⟩]
def qtl : List Plan:=[⟨[],[]⟩,⟨[0],[(40,0)]⟩,⟨[],[]⟩,⟨[2],[(42,2)]⟩,⟨[0,1,2,3],[(41,1),(43,3)]⟩,⟨[],[]⟩,⟨[5],[(45,5)]⟩,⟨[],[]⟩,⟨[7],[(47,7)]⟩,⟨[0,1,2,3,4,5,6,7,8],[(46,6),(48,8)]⟩,⟨[0,1,2,3,4,5,6,7,8,9],[(44,4),(49,9)]⟩,⟨[0,1,2,3,4,5,6,7,8,9,10],[(50,10)]⟩]
def qtm : List Plan:=[⟨[],[]⟩,⟨[],[]⟩,⟨[0,1],[(51,0),(52,1)]⟩,⟨[0,1,2],[(53,2)]⟩]
def qtn : List Plan:=[⟨[],[]⟩,⟨[],[]⟩,⟨[0,1],[(54,0),(55,1)]⟩,⟨[0,1,2],[(56,2)]⟩]
def qto : List Plan:=[⟨[],[]⟩,⟨[],[]⟩,⟨[0,1],[(57,0),(58,1)]⟩,⟨[],[]⟩,⟨[0,1,2,3],[(59,2),(60,3)]⟩,⟨[0,1,2,3,4],[(61,4)]⟩]
def qtg : List Plan:=[⟨[],[]⟩,⟨[],[]⟩,⟨[0,1],[(62,0),(63,1)]⟩,⟨[],[]⟩,⟨[],[]⟩,⟨[0,1,2,3,4],[(65,3),(66,4)]⟩,⟨[0,1,2,3,4,5],[(64,2),(67,5)]⟩,⟨[0,1,2,3,4,5,6],[(68,6)]⟩]
theorem radd {w : World} {v1 v2 v3 : Value} {P Q : P7} (h : NP w v1 P) (k : NP w v2 Q) (hd : NF w v3 C7.d) :
  Calls Tryz.prog 40 #[v1,v2,v3] w fun e w'=>∃ v,e = .returned v∧NP w' v (P.add Q)∧Ext w w':=by
 obtain ⟨a,b,c,X,Y,Z,rfl,ha,hb,hc,hP⟩:=h
 obtain ⟨a2,b2,c2,X2,Y2,Z2,rfl,ha2,hb2,hc2,hQ⟩:=k
 have hRR:=hP.add hQ
 clear hP hQ
 generalize P.add Q = S at *
 generalize C7.d = d at *
 go_enter Tryz.func40,Tryz.ntmps40
 go_upto_region 1 with fail
 obtain ⟨E0,hE0⟩ : ∃ W,W = w.alloc (.cells #[a,b,c] 57):=⟨_,rfl⟩
 obtain ⟨E1,hE1⟩ : ∃ W,W = E0.alloc (.cells #[a2,b2,c2] 57):=⟨_,rfl⟩
 obtain ⟨E2,hE2⟩ : ∃ W,W = E1.alloc (.cells #[.slice none 0 0,.slice none 0 0,.slice none 0 0] 57):=⟨_,rfl⟩
 rw [← hE0,← hE1,← hE2]
 have s0 : E0.heap.size = w.heap.size + 1:=by rw [hE0];exact Array.size_push _
 have x0 : Ext w E0:=by rw [hE0];exact qaa _ _
 have s1 : E1.heap.size = w.heap.size + 1 + 1:=by rw [hE1,← s0];exact Array.size_push _
 have x1 : Ext E0 E1:=by rw [hE1];exact qaa _ _
 have s2 : E2.heap.size = w.heap.size + 1 + 1 + 1:=by rw [hE2,← s1];exact Array.size_push _
 have x2 : Ext E1 E2:=by rw [hE2];exact qaa _ _
 have R_q:=R3w.new w a b c (ha.ext (Ext.refl w)) (hb.ext (Ext.refl w)) (hc.ext (Ext.refl w))
 rw [← hE0] at R_q
 replace R_q:=R_q.ext x1
 replace R_q:=R_q.ext x2
 have R_s:=R3w.new E0 a2 b2 c2 (ha2.ext ((Ext.refl w).trans x0)) (hb2.ext ((Ext.refl w).trans x0)) (hc2.ext ((Ext.refl w).trans x0))
 rw [← hE1] at R_s
 replace R_s:=R_s.ext x2
 rw [s0] at R_s
 have R_r:=R3w.new E1 (.slice none 0 0) (.slice none 0 0) (.slice none 0 0) (NF.nil _) (NF.nil _) (NF.nil _)
 rw [← hE2] at R_r
 rw [s1] at R_r
 obtain ⟨q,hb0⟩ : ∃ b,b = w.heap.size:=⟨_,rfl⟩
 obtain ⟨s,hb1⟩ : ∃ b,b = w.heap.size + 1:=⟨_,rfl⟩
 obtain ⟨r,hb2⟩ : ∃ b,b = w.heap.size + 1 + 1:=⟨_,rfl⟩
 rw [← hb2] at R_r
 rw [← hb1] at R_s
 rw [← hb0] at R_q
 rw [← hb2,← hb1,← hb0]
 have hx : Ext w E2:=(((Ext.refl w).trans x0).trans x1).trans x2
 have lt_q : q < E2.heap.size:=R_q.lt
 have bs_q : w.heap.size ≤ q:=by omega
 have lt_s : s < E2.heap.size:=R_s.lt
 have bs_s : w.heap.size ≤ s:=by omega
 have ne_q_s : q ≠ s:=by omega
 have lt_r : r < E2.heap.size:=R_r.lt
 have bs_r : w.heap.size ≤ r:=by omega
 have ne_q_r : q ≠ r:=by omega
 have ne_s_r : s ≠ r:=by omega
 clear hb0 s0 x0 hE0 hb1 s1 x1 hE1 hb2 s2 x2 hE2
 replace hd:=hd.ext hx
 clear ha hb hc ha2 hb2 hc2
 have hok : TrsOk [] E2.heap.size ([] : List Trk):=⟨by simp [tk],by simp [tk],by simp [tk],by simp [tk]⟩
 refine qac (InvN [] (fun j u=>match j with | 0=>u = .pointer (some ⟨q,2,none⟩) | 2=>u = .pointer (some ⟨s,2,none⟩) | _=>True) (fun j=>match j with | 1=>some (Z) | 3=>some (Z2) | 4=>some ((Z) * (Z2)) | 5=>some ((Z) * (Z2)) | _=>none) (fun _=>none) [] E2) qtf [(17,0),(18,1),(19,2),(20,3),(21,4),(7,5)] 75 rfl (by kernel_rfl) (InvN.of (Inv.start0 hok (by simp))) ⟨?_,?_,?_,?_,?_,?_,trivial⟩ ?_
 ·exact qay rfl rfl rfl rfl fun L v w D N I=>qal rfl rfl fR32 ⟨rfl,Ext.refl _⟩
 ·exact qap _ rfl rfl rfl rfl (fun _=>trivial) fun L v w D N I=>ld_3z (R_q.keep I.inv.keep (by simp) (by simp)) _ rfl (I.inv.val 0 (D 0 rfl)) fun u hu=>⟨hu,Ext.refl _⟩
 ·exact qay rfl rfl rfl rfl fun L v w D N I=>qal rfl rfl fR32 ⟨rfl,Ext.refl _⟩
 ·exact qap _ rfl rfl rfl rfl (fun _=>trivial) fun L v w D N I=>ld_3z (R_s.keep I.inv.keep (by simp) (by simp)) _ rfl (I.inv.val 2 (D 2 rfl)) fun u hu=>⟨hu,Ext.refl _⟩
 ·exact qap _ rfl rfl rfl rfl (fun _=>trivial) fun L v w D N I=>qgo _ _ rfl rfl (nmul (I.num.n 1 _ (D 1 rfl) rfl) (I.num.n 3 _ (D 3 rfl) rfl))
 ·exact qap _ rfl rfl rfl rfl (fun _=>trivial) fun L v w D N I=>⟨(I.num.n 4 _ (D 4 rfl) rfl),Ext.refl _⟩
 intro L v1 W1 hL hI
 replace R_q:=R_q.keep hI.inv.keep (by simp) (by simp)
 replace R_s:=R_s.keep hI.inv.keep (by simp) (by simp)
 replace R_r:=R_r.keep hI.inv.keep (by simp) (by simp)
 replace hd:=hd.keep hI.inv.keep (by simp)
 have hn_7:=hI.num.n 5 _ (hL 5 (by decide)) rfl
 replace lt_q:=ltk lt_q hI.inv.keep.size
 replace lt_s:=ltk lt_s hI.inv.keep.size
 replace lt_r:=ltk lt_r hI.inv.keep.size
 replace hx:=hx.trans hI.inv.keep.to_ext
 clear hI hL hok L
 simp only [putP,Act.put,zA,zB,zC]
 go_upto_region 2 with fail
 have hok : TrsOk [] W1.heap.size ([] : List Trk):=⟨by simp [tk],by simp [tk],by simp [tk],by simp [tk]⟩
 refine qac (InvN [] (fun _ _=>True) (fun j=>match j with | 0=>some ((Z) * (Z2)) | 1=>some ((Z) * (Z2)) | 2=>some (((Z) * (Z2)) * ((Z) * (Z2))) | 3=>some (((Z) * (Z2)) * ((Z) * (Z2))) | _=>none) (fun _=>none) [] W1) qth [(22,0),(23,1),(24,2),(8,3)] 75 rfl (by kernel_rfl) (InvN.of (Inv.start0 hok (by simp))) ⟨?_,?_,?_,?_,trivial⟩ ?_
 ·exact qap _ rfl rfl rfl rfl (fun _=>trivial) fun L v w D N I=>⟨hn_7.keep I.inv.keep (by simp),Ext.refl _⟩
 ·exact qap _ rfl rfl rfl rfl (fun _=>trivial) fun L v w D N I=>⟨hn_7.keep I.inv.keep (by simp),Ext.refl _⟩
 ·exact qap _ rfl rfl rfl rfl (fun _=>trivial) fun L v w D N I=>qgo _ _ rfl rfl (nmul (I.num.n 0 _ (D 0 rfl) rfl) (I.num.n 1 _ (D 1 rfl) rfl))
 ·exact qap _ rfl rfl rfl rfl (fun _=>trivial) fun L v w D N I=>⟨(I.num.n 2 _ (D 2 rfl) rfl),Ext.refl _⟩
 intro L v2 W2 hL hI
 replace R_q:=R_q.keep hI.inv.keep (by simp) (by simp)
 replace R_s:=R_s.keep hI.inv.keep (by simp) (by simp)
 replace R_r:=R_r.keep hI.inv.keep (by simp) (by simp)
 replace hd:=hd.keep hI.inv.keep (by simp)
 replace hn_7:=hn_7.keep hI.inv.keep (by simp)
 have hn_8:=hI.num.n 3 _ (hL 3 (by decide)) rfl
 replace lt_q:=ltk lt_q hI.inv.keep.size
 replace lt_s:=ltk lt_s hI.inv.keep.size
 replace lt_r:=ltk lt_r hI.inv.keep.size
 replace hx:=hx.trans hI.inv.keep.to_ext
 clear hI hL hok L
 simp only [putP,Act.put,zA,zB,zC]
 go_upto_region 3 with fail
 have hok : TrsOk [] W2.heap.size ([] : List Trk):=⟨by simp [tk],by simp [tk],by simp [tk],by simp [tk]⟩
 refine qac (InvN [] (fun j u=>match j with | 0=>u = .pointer (some ⟨q,0,none⟩) | 2=>u = .pointer (some ⟨s,0,none⟩) | _=>True) (fun j=>match j with | 1=>some (X) | 3=>some (X2) | 4=>some ((X) * (X2)) | 5=>some ((X) * (X2)) | _=>none) (fun _=>none) [] W2) qti [(25,0),(26,1),(27,2),(28,3),(29,4),(9,5)] 75 rfl (by kernel_rfl) (InvN.of (Inv.start0 hok (by simp))) ⟨?_,?_,?_,?_,?_,?_,trivial⟩ ?_
 ·exact qay rfl rfl rfl rfl fun L v w D N I=>qal rfl rfl fR30 ⟨rfl,Ext.refl _⟩
 ·exact qap _ rfl rfl rfl rfl (fun _=>trivial) fun L v w D N I=>qqx (R_q.keep I.inv.keep (by simp) (by simp)) _ rfl (I.inv.val 0 (D 0 rfl)) fun u hu=>⟨hu,Ext.refl _⟩
 ·exact qay rfl rfl rfl rfl fun L v w D N I=>qal rfl rfl fR30 ⟨rfl,Ext.refl _⟩
 ·exact qap _ rfl rfl rfl rfl (fun _=>trivial) fun L v w D N I=>qqx (R_s.keep I.inv.keep (by simp) (by simp)) _ rfl (I.inv.val 2 (D 2 rfl)) fun u hu=>⟨hu,Ext.refl _⟩
 ·exact qap _ rfl rfl rfl rfl (fun _=>trivial) fun L v w D N I=>qgo _ _ rfl rfl (nmul (I.num.n 1 _ (D 1 rfl) rfl) (I.num.n 3 _ (D 3 rfl) rfl))
 ·exact qap _ rfl rfl rfl rfl (fun _=>trivial) fun L v w D N I=>⟨(I.num.n 4 _ (D 4 rfl) rfl),Ext.refl _⟩
 intro L v3 W3 hL hI
 replace R_q:=R_q.keep hI.inv.keep (by simp) (by simp)
 replace R_s:=R_s.keep hI.inv.keep (by simp) (by simp)
 replace R_r:=R_r.keep hI.inv.keep (by simp) (by simp)
 replace hd:=hd.keep hI.inv.keep (by simp)
 replace hn_7:=hn_7.keep hI.inv.keep (by simp)
 replace hn_8:=hn_8.keep hI.inv.keep (by simp)
 have hn_9:=hI.num.n 5 _ (hL 5 (by decide)) rfl
 replace lt_q:=ltk lt_q hI.inv.keep.size
 replace lt_s:=ltk lt_s hI.inv.keep.size
 replace lt_r:=ltk lt_r hI.inv.keep.size
 replace hx:=hx.trans hI.inv.keep.to_ext
 clear hI hL hok L
 simp only [putP,Act.put,zA,zB,zC]
 go_upto_region 4 with fail
 have hok : TrsOk [] W3.heap.size ([] : List Trk):=⟨by simp [tk],by simp [tk],by simp [tk],by simp [tk]⟩
 refine qac (InvN [] (fun j u=>match j with | 0=>u = .pointer (some ⟨q,1,none⟩) | 2=>u = .pointer (some ⟨s,1,none⟩) | _=>True) (fun j=>match j with | 1=>some (Y) | 3=>some (Y2) | 4=>some ((Y) * (Y2)) | 5=>some ((Y) * (Y2)) | _=>none) (fun _=>none) [] W3) qtj [(30,0),(31,1),(32,2),(33,3),(34,4),(10,5)] 75 rfl (by kernel_rfl) (InvN.of (Inv.start0 hok (by simp))) ⟨?_,?_,?_,?_,?_,?_,trivial⟩ ?_
 ·exact qay rfl rfl rfl rfl fun L v w D N I=>qal rfl rfl fR31 ⟨rfl,Ext.refl _⟩
 ·exact qap _ rfl rfl rfl rfl (fun _=>trivial) fun L v w D N I=>qqw (R_q.keep I.inv.keep (by simp) (by simp)) _ rfl (I.inv.val 0 (D 0 rfl)) fun u hu=>⟨hu,Ext.refl _⟩
 ·exact qay rfl rfl rfl rfl fun L v w D N I=>qal rfl rfl fR31 ⟨rfl,Ext.refl _⟩
 ·exact qap _ rfl rfl rfl rfl (fun _=>trivial) fun L v w D N I=>qqw (R_s.keep I.inv.keep (by simp) (by simp)) _ rfl (I.inv.val 2 (D 2 rfl)) fun u hu=>⟨hu,Ext.refl _⟩
 ·exact qap _ rfl rfl rfl rfl (fun _=>trivial) fun L v w D N I=>qgo _ _ rfl rfl (nmul (I.num.n 1 _ (D 1 rfl) rfl) (I.num.n 3 _ (D 3 rfl) rfl))
 ·exact qap _ rfl rfl rfl rfl (fun _=>trivial) fun L v w D N I=>⟨(I.num.n 4 _ (D 4 rfl) rfl),Ext.refl _⟩
 intro L v4 W4 hL hI
 replace R_q:=R_q.keep hI.inv.keep (by simp) (by simp)
 replace R_s:=R_s.keep hI.inv.keep (by simp) (by simp)
 replace R_r:=R_r.keep hI.inv.keep (by simp) (by simp)
 replace hd:=hd.keep hI.inv.keep (by simp)
 replace hn_7:=hn_7.keep hI.inv.keep (by simp)
 replace hn_8:=hn_8.keep hI.inv.keep (by simp)
 replace hn_9:=hn_9.keep hI.inv.keep (by simp)
 have hn_10:=hI.num.n 5 _ (hL 5 (by decide)) rfl
 replace lt_q:=ltk lt_q hI.inv.keep.size
 replace lt_s:=ltk lt_s hI.inv.keep.size
 replace lt_r:=ltk lt_r hI.inv.keep.size
 replace hx:=hx.trans hI.inv.keep.to_ext
 clear hI hL hok L
 simp only [putP,Act.put,zA,zB,zC]
 go_upto_region 5 with fail
 have hok : TrsOk [] W4.heap.size ([] : List Trk):=⟨by simp [tk],by simp [tk],by simp [tk],by simp [tk]⟩
 refine qac (InvN [] (fun _ _=>True) (fun j=>match j with | 0=>some (d) | 1=>some ((X) * (X2)) | 2=>some ((Y) * (Y2)) | 3=>some (((X) * (X2)) * ((Y) * (Y2))) | 4=>some ((d) * (((X) * (X2)) * ((Y) * (Y2)))) | 5=>some ((d) * (((X) * (X2)) * ((Y) * (Y2)))) | _=>none) (fun _=>none) [] W4) qtk [(35,0),(36,1),(37,2),(38,3),(39,4),(11,5)] 75 rfl (by kernel_rfl) (InvN.of (Inv.start0 hok (by simp))) ⟨?_,?_,?_,?_,?_,?_,trivial⟩ ?_
 ·exact qap _ rfl rfl rfl rfl (fun _=>trivial) fun L v w D N I=>⟨hd.keep I.inv.keep (by simp),Ext.refl _⟩
 ·exact qap _ rfl rfl rfl rfl (fun _=>trivial) fun L v w D N I=>⟨hn_9.keep I.inv.keep (by simp),Ext.refl _⟩
 ·exact qap _ rfl rfl rfl rfl (fun _=>trivial) fun L v w D N I=>⟨hn_10.keep I.inv.keep (by simp),Ext.refl _⟩
 ·exact qap _ rfl rfl rfl rfl (fun _=>trivial) fun L v w D N I=>qgo _ _ rfl rfl (nmul (I.num.n 1 _ (D 1 rfl) rfl) (I.num.n 2 _ (D 2 rfl) rfl))
 ·exact qap _ rfl rfl rfl rfl (fun _=>trivial) fun L v w D N I=>qgo _ _ rfl rfl (nmul (I.num.n 0 _ (D 0 rfl) rfl) (I.num.n 3 _ (D 3 rfl) rfl))
 ·exact qap _ rfl rfl rfl rfl (fun _=>trivial) fun L v w D N I=>⟨(I.num.n 4 _ (D 4 rfl) rfl),Ext.refl _⟩
 intro L v5 W5 hL hI
 replace R_q:=R_q.keep hI.inv.keep (by simp) (by simp)
 replace R_s:=R_s.keep hI.inv.keep (by simp) (by simp)
 replace R_r:=R_r.keep hI.inv.keep (by simp) (by simp)
 replace hd:=hd.keep hI.inv.keep (by simp)
 replace hn_7:=hn_7.keep hI.inv.keep (by simp)
 replace hn_8:=hn_8.keep hI.inv.keep (by simp)
 replace hn_9:=hn_9.keep hI.inv.keep (by simp)
 replace hn_10:=hn_10.keep hI.inv.keep (by simp)
 have hn_11:=hI.num.n 5 _ (hL 5 (by decide)) rfl
 replace lt_q:=ltk lt_q hI.inv.keep.size
 replace lt_s:=ltk lt_s hI.inv.keep.size
 replace lt_r:=ltk lt_r hI.inv.keep.size
 replace hx:=hx.trans hI.inv.keep.to_ext
 clear hI hL hok L
 simp only [putP,Act.put,zA,zB,zC]
 go_upto_region 6 with fail
 have hok : TrsOk [] W5.heap.size ([] : List Trk):=⟨by simp [tk],by simp [tk],by simp [tk],by simp [tk]⟩
 refine qag (InvN [] (fun j u=>match j with | 0=>u = .pointer (some ⟨q,0,none⟩) | 2=>u = .pointer (some ⟨s,1,none⟩) | 5=>u = .pointer (some ⟨s,0,none⟩) | 7=>u = .pointer (some ⟨q,1,none⟩) | _=>True) (fun j=>match j with | 1=>some (X) | 3=>some (Y2) | 4=>some ((X) * (Y2)) | 6=>some (X2) | 8=>some (Y) | 9=>some ((X2) * (Y)) | 10=>some (((X) * (Y2)) + ((X2) * (Y))) | 11=>some (((X) * (Y2)) + ((X2) * (Y))) | _=>none) (fun _=>none) [] W5) qtl [(40,0),(41,1),(42,2),(43,3),(44,4),(45,5),(46,6),(47,7),(48,8),(49,9),(50,10),(12,11)] 75 (by kernel_rfl) rfl (by kernel_rfl) (InvN.of (Inv.start hok (by simp))) ⟨?_,?_,?_,?_,?_,?_,?_,?_,?_,?_,?_,?_,trivial⟩ ?_
 ·exact qay rfl rfl rfl rfl fun L v w D N I=>qal rfl rfl fR30 ⟨rfl,Ext.refl _⟩
 ·exact qap _ rfl rfl rfl rfl (fun _=>trivial) fun L v w D N I=>qqx (R_q.keep I.inv.keep (by simp) (by simp)) _ rfl (I.inv.val 0 (D 0 rfl)) fun u hu=>⟨hu,Ext.refl _⟩
 ·exact qay rfl rfl rfl rfl fun L v w D N I=>qal rfl rfl fR31 ⟨rfl,Ext.refl _⟩
 ·exact qap _ rfl rfl rfl rfl (fun _=>trivial) fun L v w D N I=>qqw (R_s.keep I.inv.keep (by simp) (by simp)) _ rfl (I.inv.val 2 (D 2 rfl)) fun u hu=>⟨hu,Ext.refl _⟩
 ·exact qap _ rfl rfl rfl rfl (fun _=>trivial) fun L v w D N I=>qgo _ _ rfl rfl (nmul (I.num.n 1 _ (D 1 rfl) rfl) (I.num.n 3 _ (D 3 rfl) rfl))
 ·exact qay rfl rfl rfl rfl fun L v w D N I=>qal rfl rfl fR30 ⟨rfl,Ext.refl _⟩
 ·exact qap _ rfl rfl rfl rfl (fun _=>trivial) fun L v w D N I=>qqx (R_s.keep I.inv.keep (by simp) (by simp)) _ rfl (I.inv.val 5 (D 5 rfl)) fun u hu=>⟨hu,Ext.refl _⟩
 ·exact qay rfl rfl rfl rfl fun L v w D N I=>qal rfl rfl fR31 ⟨rfl,Ext.refl _⟩
 ·exact qap _ rfl rfl rfl rfl (fun _=>trivial) fun L v w D N I=>qqw (R_q.keep I.inv.keep (by simp) (by simp)) _ rfl (I.inv.val 7 (D 7 rfl)) fun u hu=>⟨hu,Ext.refl _⟩
 ·exact qap _ rfl rfl rfl rfl (fun _=>trivial) fun L v w D N I=>qgo _ _ rfl rfl (nmul (I.num.n 6 _ (D 6 rfl) rfl) (I.num.n 8 _ (D 8 rfl) rfl))
 ·exact qap _ rfl rfl rfl rfl (fun _=>trivial) fun L v w D N I=>gNAdd _ _ rfl rfl (nadd (I.num.n 4 _ (D 4 rfl) rfl) (I.num.n 9 _ (D 9 rfl) rfl))
 ·exact qap _ rfl rfl rfl rfl (fun _=>trivial) fun L v w D N I=>⟨(I.num.n 10 _ (D 10 rfl) rfl),Ext.refl _⟩
 intro L v6 W6 hL hI
 replace R_q:=R_q.keep hI.inv.keep (by simp) (by simp)
 replace R_s:=R_s.keep hI.inv.keep (by simp) (by simp)
 replace R_r:=R_r.keep hI.inv.keep (by simp) (by simp)
 replace hd:=hd.keep hI.inv.keep (by simp)
 replace hn_7:=hn_7.keep hI.inv.keep (by simp)
 replace hn_8:=hn_8.keep hI.inv.keep (by simp)
 replace hn_9:=hn_9.keep hI.inv.keep (by simp)
 replace hn_10:=hn_10.keep hI.inv.keep (by simp)
 replace hn_11:=hn_11.keep hI.inv.keep (by simp)
 have hn_12:=hI.num.n 11 _ (hL 11 (by decide)) rfl
 replace lt_q:=ltk lt_q hI.inv.keep.size
 replace lt_s:=ltk lt_s hI.inv.keep.size
 replace lt_r:=ltk lt_r hI.inv.keep.size
 replace hx:=hx.trans hI.inv.keep.to_ext
 clear hI hL hok L
 simp only [putP,Act.put,zA,zB,zC]
 go_upto_region 7 with fail
 have hok : TrsOk [] W6.heap.size ([] : List Trk):=⟨by simp [tk],by simp [tk],by simp [tk],by simp [tk]⟩
 refine qac (InvN [] (fun _ _=>True) (fun j=>match j with | 0=>some (((Z) * (Z2)) * ((Z) * (Z2))) | 1=>some ((d) * (((X) * (X2)) * ((Y) * (Y2)))) | 2=>some ((((Z) * (Z2)) * ((Z) * (Z2))) - ((d) * (((X) * (X2)) * ((Y) * (Y2))))) | 3=>some ((((Z) * (Z2)) * ((Z) * (Z2))) - ((d) * (((X) * (X2)) * ((Y) * (Y2))))) | _=>none) (fun _=>none) [] W6) qtm [(51,0),(52,1),(53,2),(13,3)] 75 rfl (by kernel_rfl) (InvN.of (Inv.start0 hok (by simp))) ⟨?_,?_,?_,?_,trivial⟩ ?_
 ·exact qap _ rfl rfl rfl rfl (fun _=>trivial) fun L v w D N I=>⟨hn_8.keep I.inv.keep (by simp),Ext.refl _⟩
 ·exact qap _ rfl rfl rfl rfl (fun _=>trivial) fun L v w D N I=>⟨hn_11.keep I.inv.keep (by simp),Ext.refl _⟩
 ·exact qap _ rfl rfl rfl rfl (fun _=>trivial) fun L v w D N I=>gNSub _ _ rfl rfl (nsub (I.num.n 0 _ (D 0 rfl) rfl) (I.num.n 1 _ (D 1 rfl) rfl))
 ·exact qap _ rfl rfl rfl rfl (fun _=>trivial) fun L v w D N I=>⟨(I.num.n 2 _ (D 2 rfl) rfl),Ext.refl _⟩
 intro L v7 W7 hL hI
 replace R_q:=R_q.keep hI.inv.keep (by simp) (by simp)
 replace R_s:=R_s.keep hI.inv.keep (by simp) (by simp)
 replace R_r:=R_r.keep hI.inv.keep (by simp) (by simp)
 replace hd:=hd.keep hI.inv.keep (by simp)
 replace hn_7:=hn_7.keep hI.inv.keep (by simp)
 replace hn_8:=hn_8.keep hI.inv.keep (by simp)
 replace hn_9:=hn_9.keep hI.inv.keep (by simp)
 replace hn_10:=hn_10.keep hI.inv.keep (by simp)
 replace hn_11:=hn_11.keep hI.inv.keep (by simp)
 replace hn_12:=hn_12.keep hI.inv.keep (by simp)
 have hn_13:=hI.num.n 3 _ (hL 3 (by decide)) rfl
 replace lt_q:=ltk lt_q hI.inv.keep.size
 replace lt_s:=ltk lt_s hI.inv.keep.size
 replace lt_r:=ltk lt_r hI.inv.keep.size
 replace hx:=hx.trans hI.inv.keep.to_ext
 clear hI hL hok L
 simp only [putP,Act.put,zA,zB,zC]
 go_upto_region 8 with fail
 have hok : TrsOk [] W7.heap.size ([] : List Trk):=⟨by simp [tk],by simp [tk],by simp [tk],by simp [tk]⟩
 refine qac (InvN [] (fun _ _=>True) (fun j=>match j with | 0=>some (((Z) * (Z2)) * ((Z) * (Z2))) | 1=>some ((d) * (((X) * (X2)) * ((Y) * (Y2)))) | 2=>some ((((Z) * (Z2)) * ((Z) * (Z2))) + ((d) * (((X) * (X2)) * ((Y) * (Y2))))) | 3=>some ((((Z) * (Z2)) * ((Z) * (Z2))) + ((d) * (((X) * (X2)) * ((Y) * (Y2))))) | _=>none) (fun _=>none) [] W7) qtn [(54,0),(55,1),(56,2),(14,3)] 75 rfl (by kernel_rfl) (InvN.of (Inv.start0 hok (by simp))) ⟨?_,?_,?_,?_,trivial⟩ ?_
 ·exact qap _ rfl rfl rfl rfl (fun _=>trivial) fun L v w D N I=>⟨hn_8.keep I.inv.keep (by simp),Ext.refl _⟩
 ·exact qap _ rfl rfl rfl rfl (fun _=>trivial) fun L v w D N I=>⟨hn_11.keep I.inv.keep (by simp),Ext.refl _⟩
 ·exact qap _ rfl rfl rfl rfl (fun _=>trivial) fun L v w D N I=>gNAdd _ _ rfl rfl (nadd (I.num.n 0 _ (D 0 rfl) rfl) (I.num.n 1 _ (D 1 rfl) rfl))
 ·exact qap _ rfl rfl rfl rfl (fun _=>trivial) fun L v w D N I=>⟨(I.num.n 2 _ (D 2 rfl) rfl),Ext.refl _⟩
 intro L v8 W8 hL hI
 replace R_q:=R_q.keep hI.inv.keep (by simp) (by simp)
 replace R_s:=R_s.keep hI.inv.keep (by simp) (by simp)
 replace R_r:=R_r.keep hI.inv.keep (by simp) (by simp)
 replace hd:=hd.keep hI.inv.keep (by simp)
 replace hn_7:=hn_7.keep hI.inv.keep (by simp)
 replace hn_8:=hn_8.keep hI.inv.keep (by simp)
 replace hn_9:=hn_9.keep hI.inv.keep (by simp)
 replace hn_10:=hn_10.keep hI.inv.keep (by simp)
 replace hn_11:=hn_11.keep hI.inv.keep (by simp)
 replace hn_12:=hn_12.keep hI.inv.keep (by simp)
 replace hn_13:=hn_13.keep hI.inv.keep (by simp)
 have hn_14:=hI.num.n 3 _ (hL 3 (by decide)) rfl
 replace lt_q:=ltk lt_q hI.inv.keep.size
 replace lt_s:=ltk lt_s hI.inv.keep.size
 replace lt_r:=ltk lt_r hI.inv.keep.size
 replace hx:=hx.trans hI.inv.keep.to_ext
 clear hI hL hok L
 simp only [putP,Act.put,zA,zB,zC]
 go_upto_region 9 with fail
 have hok : TrsOk [] W8.heap.size ([] : List Trk):=⟨by simp [tk],by simp [tk],by simp [tk],by simp [tk]⟩
 refine qac (InvN [] (fun _ _=>True) (fun j=>match j with | 0=>some ((Z) * (Z2)) | 1=>some ((((Z) * (Z2)) * ((Z) * (Z2))) - ((d) * (((X) * (X2)) * ((Y) * (Y2))))) | 2=>some (((Z) * (Z2)) * ((((Z) * (Z2)) * ((Z) * (Z2))) - ((d) * (((X) * (X2)) * ((Y) * (Y2)))))) | 3=>some (((X) * (Y2)) + ((X2) * (Y))) | 4=>some ((((Z) * (Z2)) * ((((Z) * (Z2)) * ((Z) * (Z2))) - ((d) * (((X) * (X2)) * ((Y) * (Y2)))))) * (((X) * (Y2)) + ((X2) * (Y)))) | 5=>some ((((Z) * (Z2)) * ((((Z) * (Z2)) * ((Z) * (Z2))) - ((d) * (((X) * (X2)) * ((Y) * (Y2)))))) * (((X) * (Y2)) + ((X2) * (Y)))) | _=>none) (fun _=>none) [] W8) qto [(57,0),(58,1),(59,2),(60,3),(61,4),(15,5)] 75 rfl (by kernel_rfl) (InvN.of (Inv.start0 hok (by simp))) ⟨?_,?_,?_,?_,?_,?_,trivial⟩ ?_
 ·exact qap _ rfl rfl rfl rfl (fun _=>trivial) fun L v w D N I=>⟨hn_7.keep I.inv.keep (by simp),Ext.refl _⟩
 ·exact qap _ rfl rfl rfl rfl (fun _=>trivial) fun L v w D N I=>⟨hn_13.keep I.inv.keep (by simp),Ext.refl _⟩
 ·exact qap _ rfl rfl rfl rfl (fun _=>trivial) fun L v w D N I=>qgo _ _ rfl rfl (nmul (I.num.n 0 _ (D 0 rfl) rfl) (I.num.n 1 _ (D 1 rfl) rfl))
 ·exact qap _ rfl rfl rfl rfl (fun _=>trivial) fun L v w D N I=>⟨hn_12.keep I.inv.keep (by simp),Ext.refl _⟩
 ·exact qap _ rfl rfl rfl rfl (fun _=>trivial) fun L v w D N I=>qgo _ _ rfl rfl (nmul (I.num.n 2 _ (D 2 rfl) rfl) (I.num.n 3 _ (D 3 rfl) rfl))
 ·exact qap _ rfl rfl rfl rfl (fun _=>trivial) fun L v w D N I=>⟨(I.num.n 4 _ (D 4 rfl) rfl),Ext.refl _⟩
 intro L v9 W9 hL hI
 replace R_q:=R_q.keep hI.inv.keep (by simp) (by simp)
 replace R_s:=R_s.keep hI.inv.keep (by simp) (by simp)
 replace R_r:=R_r.keep hI.inv.keep (by simp) (by simp)
 replace hd:=hd.keep hI.inv.keep (by simp)
 replace hn_7:=hn_7.keep hI.inv.keep (by simp)
 replace hn_8:=hn_8.keep hI.inv.keep (by simp)
 replace hn_9:=hn_9.keep hI.inv.keep (by simp)
 replace hn_10:=hn_10.keep hI.inv.keep (by simp)
 replace hn_11:=hn_11.keep hI.inv.keep (by simp)
 replace hn_12:=hn_12.keep hI.inv.keep (by simp)
 replace hn_13:=hn_13.keep hI.inv.keep (by simp)
 replace hn_14:=hn_14.keep hI.inv.keep (by simp)
 have hn_15:=hI.num.n 5 _ (hL 5 (by decide)) rfl
 replace lt_q:=ltk lt_q hI.inv.keep.size
 replace lt_s:=ltk lt_s hI.inv.keep.size
 replace lt_r:=ltk lt_r hI.inv.keep.size
 replace hx:=hx.trans hI.inv.keep.to_ext
 clear hI hL hok L
 simp only [putP,Act.put,zA,zB,zC]
 go_upto_region 10 with fail
 have hok : TrsOk [] W9.heap.size ([] : List Trk):=⟨by simp [tk],by simp [tk],by simp [tk],by simp [tk]⟩
 refine qac (InvN [] (fun _ _=>True) (fun j=>match j with | 0=>some ((Z) * (Z2)) | 1=>some ((((Z) * (Z2)) * ((Z) * (Z2))) + ((d) * (((X) * (X2)) * ((Y) * (Y2))))) | 2=>some (((Z) * (Z2)) * ((((Z) * (Z2)) * ((Z) * (Z2))) + ((d) * (((X) * (X2)) * ((Y) * (Y2)))))) | 3=>some ((Y) * (Y2)) | 4=>some ((X) * (X2)) | 5=>some (((Y) * (Y2)) + ((X) * (X2))) | 6=>some ((((Z) * (Z2)) * ((((Z) * (Z2)) * ((Z) * (Z2))) + ((d) * (((X) * (X2)) * ((Y) * (Y2)))))) * (((Y) * (Y2)) + ((X) * (X2)))) | 7=>some ((((Z) * (Z2)) * ((((Z) * (Z2)) * ((Z) * (Z2))) + ((d) * (((X) * (X2)) * ((Y) * (Y2)))))) * (((Y) * (Y2)) + ((X) * (X2)))) | _=>none) (fun _=>none) [] W9) qtg [(62,0),(63,1),(64,2),(65,3),(66,4),(67,5),(68,6),(16,7)] 75 rfl (by kernel_rfl) (InvN.of (Inv.start0 hok (by simp))) ⟨?_,?_,?_,?_,?_,?_,?_,?_,trivial⟩ ?_
 ·exact qap _ rfl rfl rfl rfl (fun _=>trivial) fun L v w D N I=>⟨hn_7.keep I.inv.keep (by simp),Ext.refl _⟩
 ·exact qap _ rfl rfl rfl rfl (fun _=>trivial) fun L v w D N I=>⟨hn_14.keep I.inv.keep (by simp),Ext.refl _⟩
 ·exact qap _ rfl rfl rfl rfl (fun _=>trivial) fun L v w D N I=>qgo _ _ rfl rfl (nmul (I.num.n 0 _ (D 0 rfl) rfl) (I.num.n 1 _ (D 1 rfl) rfl))
 ·exact qap _ rfl rfl rfl rfl (fun _=>trivial) fun L v w D N I=>⟨hn_10.keep I.inv.keep (by simp),Ext.refl _⟩
 ·exact qap _ rfl rfl rfl rfl (fun _=>trivial) fun L v w D N I=>⟨hn_9.keep I.inv.keep (by simp),Ext.refl _⟩
 ·exact qap _ rfl rfl rfl rfl (fun _=>trivial) fun L v w D N I=>gNAdd _ _ rfl rfl (nadd (I.num.n 3 _ (D 3 rfl) rfl) (I.num.n 4 _ (D 4 rfl) rfl))
 ·exact qap _ rfl rfl rfl rfl (fun _=>trivial) fun L v w D N I=>qgo _ _ rfl rfl (nmul (I.num.n 2 _ (D 2 rfl) rfl) (I.num.n 5 _ (D 5 rfl) rfl))
 ·exact qap _ rfl rfl rfl rfl (fun _=>trivial) fun L v w D N I=>⟨(I.num.n 6 _ (D 6 rfl) rfl),Ext.refl _⟩
 intro L v10 W10 hL hI
 replace R_q:=R_q.keep hI.inv.keep (by simp) (by simp)
 replace R_s:=R_s.keep hI.inv.keep (by simp) (by simp)
 replace R_r:=R_r.keep hI.inv.keep (by simp) (by simp)
 replace hd:=hd.keep hI.inv.keep (by simp)
 replace hn_7:=hn_7.keep hI.inv.keep (by simp)
 replace hn_8:=hn_8.keep hI.inv.keep (by simp)
 replace hn_9:=hn_9.keep hI.inv.keep (by simp)
 replace hn_10:=hn_10.keep hI.inv.keep (by simp)
 replace hn_11:=hn_11.keep hI.inv.keep (by simp)
 replace hn_12:=hn_12.keep hI.inv.keep (by simp)
 replace hn_13:=hn_13.keep hI.inv.keep (by simp)
 replace hn_14:=hn_14.keep hI.inv.keep (by simp)
 replace hn_15:=hn_15.keep hI.inv.keep (by simp)
 have hn_16:=hI.num.n 7 _ (hL 7 (by decide)) rfl
 replace lt_q:=ltk lt_q hI.inv.keep.size
 replace lt_s:=ltk lt_s hI.inv.keep.size
 replace lt_r:=ltk lt_r hI.inv.keep.size
 replace hx:=hx.trans hI.inv.keep.to_ext
 clear hI hL hok L
 simp only [putP,Act.put,zA,zB,zC]
 obtain ⟨cs,hr1,-⟩ : ∃ cs,Row W10 r 57 cs∧cs.length = 3:=by
  obtain ⟨a,b,c,h1,-⟩:=R_r
  exact ⟨_,h1,rfl⟩
 have noi_r:=R_r.noI
 obtain ⟨A1,n1,c1,q1⟩:=hn_15.sl
 obtain ⟨A2,n2,c2',q2⟩:=hn_16.sl
 rw [q1] at hn_15 ⊢
 rw [q2] at hn_16 ⊢
 skip
 go_wp2_with fail
 go_at_call 67
 with_reducible refine (nmul hn_13 hn_14).mono ?_
 rintro e w9 ⟨v9,rfl,hv9,hx9⟩
 obtain ⟨A3,n3,c3,sl9⟩:=hv9.sl
 subst sl9
 obtain ⟨z1,z2,z3,hR9,-,-,-⟩:=R_r.ext hx9
 have f0:=hR9.fro 0
 have f1:=hR9.fro 1
 have f2:=hR9.fro 2
 have g0:=hR9.cell (i:=0) (by simp)
 have g1:=hR9.cell (i:=1) (by simp)
 have g2:=hR9.cell (i:=2) (by simp)
 go_wp2
 have hRf : Row _ r 57 [.slice A1 n1 c1,.slice A2 n2 c2',.slice A3 n3 c3]:=((hR9.set 0 (.slice A1 n1 c1)).set 1 (.slice A2 n2 c2')).set 2 (.slice A3 n3 c3)
 have hK:=((Keep.setCell w9 ⟨r,0,none⟩ (.slice A1 n1 c1)).same (Keep.setCell (w9.setCell ⟨r,0,none⟩ (.slice A1 n1 c1)) ⟨r,1,none⟩ (.slice A2 n2 c2'))).same (Keep.setCell ((w9.setCell ⟨r,0,none⟩ (.slice A1 n1 c1)).setCell ⟨r,1,none⟩ (.slice A2 n2 c2')) ⟨r,2,none⟩ (.slice A3 n3 c3))
 have hno : ∀ b ∈ [r],NoI w9 b:=by
  intro b hb
  rw [List.mem_singleton.1 hb]
  exact (R_r.ext hx9).noI
 obtain ⟨fs,hu⟩:=u60
 exact bodyPost_ret (results_cell_row (p:=6) (ty:=57) rfl _ _ r _ _ (0,0) _ rfl hRf hu rfl i60) rfl ⟨_,rfl,⟨_,_,_,_,_,_,rfl,(hn_15.ext hx9).keep hK hno,(hn_16.ext hx9).keep hK hno,hv9.keep hK hno,hRR⟩,Ext.keep_ (hx.trans hx9) hK (by simpa using bs_r)⟩
end Go.Proofs.YtgeihelkkhjjaaaGreatDoor
end
section
namespace Go.Cv
open Go.RowKit
theorem shr_b (x : UInt8) (s : Nat) (h : s < 8) : n8 x / 2 ^ s = n8 (x >>> UInt8.ofNat s):=by
 show (x.toNat : Int) / 2 ^ s = (((x >>> UInt8.ofNat s).toNat : Nat) : Int)
 rw [UInt8.toNat_shiftRight,UInt8.toNat_ofNat',Nat.mod_eq_of_lt (show s < 2 ^ 8 by omega),Nat.mod_eq_of_lt h,Nat.shiftRight_eq_div_pow]
 simp
theorem bit_b (x : UInt8) (s : Nat) (h : s < 8) : (x >>> UInt8.ofNat s &&& 1).toNat = x.toNat / 2 ^ s % 2:=by
 rw [UInt8.toNat_and,UInt8.toNat_shiftRight,UInt8.toNat_ofNat',Nat.mod_eq_of_lt (show s < 2 ^ 8 by omega),Nat.mod_eq_of_lt h,Nat.shiftRight_eq_div_pow]
 show _ &&& 1 = _
 rw [Nat.and_one_is_mod]
theorem bit_V (N b i : Nat) (h : N / 2 ^ (8 * (i / 8)) % 256 = b) : N / 2 ^ i % 2 = b / 2 ^ (i % 8) % 2:=by
 obtain ⟨q,hq⟩ : ∃ q,q = i / 8:=⟨_,rfl⟩
 obtain ⟨t,ht⟩ : ∃ t,t = i % 8:=⟨_,rfl⟩
 have hi : i = 8 * q + t:=by omega
 have ht8 : t < 8:=by omega
 rw [← hq] at h
 rw [← ht,hi,Nat.pow_add,← Nat.div_div_eq_div_mul,← h]
 generalize N / 2 ^ (8 * q) = M
 have e : (256 : Nat) = 2 ^ t * (2 * 2 ^ (7 - t)):=(by decide : ∀ t < 8,(256 : Nat) = 2 ^ t * (2 * 2 ^ (7 - t))) t ht8
 rw [e,Nat.mod_mul_right_div_self,Nat.mod_mul_right_mod]
end Go.Cv
namespace Go.Proofs.YtgeihelkkhjjaaaGreatDoor
open Go.RowKit Go.Cv Go.Cv.Pr Go.Cv.Grp Go.Cv.Dig
section
variable {w : World} {o : Oper} {ev : Operand→Value} {R : Value→World→Prop} {n : Nat} {P : P7}
theorem ld_N (hR : RN w n P) (p : Operand) (ho : o.op = .load 57 p) (hx : ev p = .pointer (some ⟨n,0,none⟩)) (h : ∀ u,NP w u P→R u w) : qak Tryz.prog R ((execOp ev o).run Tryz.prog w):=by
 obtain ⟨cs,h1,h2⟩:=hR
 obtain ⟨fs,hu⟩:=u60
 exact qci _ p ho n hx h1 _ hu rfl (by rw [h2.cells.1];exact i60) (h _ h2)
theorem st_N {T : TypeId} {cs : List Value} (hR : Row w n 57 cs) (hl : cs.length = 3) (hno : ∀ c ∈ cs,noI c = true) (p q : Operand) (ho : o.op = .store 57 p q) (hx : ev p = .pointer (some ⟨n,0,none⟩)) (hy : NP w (ev q) P)
  (h : ∀ w',RN w' n P→Keep [n] w w'→R undef w') : qak Tryz.prog R ((execOp ev o).run Tryz.prog w):=by
 have hN : ∀ b ∈ [n],NoI w b:=fun b hb=>by rw [List.mem_singleton.1 hb];exact NoI.of hR hno
 have hy2:=hy
 obtain ⟨a,b,c,X,Y,Z,e,h1,h2,h3,h4⟩:=hy
 obtain ⟨A1,n1,c1,q1⟩:=h1.sl
 obtain ⟨A2,n2,c2,q2⟩:=h2.sl
 obtain ⟨A3,n3,c3,q3⟩:=h3.sl
 refine qbx _ p q ho n #[a,b,c] hx e hR i60 hl (by rw [q1,q2,q3];simp [Value.oneCell']) fun w' hr hk=>h w' ⟨_,hr,?_⟩ hk
 rw [e] at hy2
 exact hy2.keep hk hN
theorem built60 (A1 A2 A3 : Option Addr) (n1 n2 n3 c1 c2 c3 : Nat) : Tryz.prog.built 57 [(0,.slice A1 n1 c1),(1,.slice A2 n2 c2),(2,.slice A3 n3 c3)] = some #[.slice A1 n1 c1,.slice A2 n2 c2,.slice A3 n3 c3]:=by kernel_rfl
theorem bd_N (p q r : Operand) {X Y Z : F7} (ho : o.op = .build 57 #[(0,p),(1,q),(2,r)]) (hp : NF w (ev p) X) (hq : NF w (ev q) Y) (hr : NF w (ev r) Z) (h3 : R3 X Y Z P) (h : ∀ u,NP w u P→R u w) : qak Tryz.prog R ((execOp ev o).run Tryz.prog w):=by
 obtain ⟨A1,n1,c1,q1⟩:=hp.sl
 obtain ⟨A2,n2,c2,q2⟩:=hq.sl
 obtain ⟨A3,n3,c3,q3⟩:=hr.sl
 refine qej _ _ ho #[.slice A1 n1 c1,.slice A2 n2 c2,.slice A3 n3 c3] ?_ (h _ ?_)
 ·simp only [List.map_toArray,List.map_cons,List.map_nil,q1,q2,q3]
  exact built60 _ _ _ _ _ _ _ _ _
 ·rw [q1] at hp
  rw [q2] at hq
  rw [q3] at hr
  exact ⟨_,_,_,X,Y,Z,rfl,hp,hq,hr,h3⟩
end
theorem RN.of3 {w : World} {n : Nat} {X Y Z : F7} {P : P7} (h : R3w w n X Y Z) (k : R3 X Y Z P) : RN w n P:=by
 obtain ⟨a,b,c,h1,h2,h3,h4⟩:=h
 exact ⟨_,h1,⟨a,b,c,X,Y,Z,rfl,h2,h3,h4,k⟩⟩
theorem two_pt (k : Nat) (P : P7) : ((Pt.mul k P).add (Pt.mul k P)).add P = Pt.mul (2 * k + 1) P:=by
 rw [qcq,Pt.mul_succ]
def qtp : List Plan:=[⟨[],[]⟩,⟨[0],[(3,0)]⟩,⟨[0,1],[(4,1)]⟩,⟨[],[]⟩,⟨[3],[(6,3)]⟩,⟨[0,1,2,3,4],[(7,4)]⟩,⟨[],[]⟩,⟨[0,1,2,3,4,5,6],[(5,2),(8,5),(9,6)]⟩,⟨[0,1,2,3,4,5,6,7],[(10,7)]⟩]
def qv0 : List Plan:=[⟨[],[]⟩,⟨[],[]⟩,⟨[0,1],[(1,0),(2,1)]⟩,⟨[0,1,2],[(3,2)]⟩]
theorem rin7 {f g : Nat→UInt8} {P : P7} (hPx : tf (V f) = P.x) (hPy : tf (V g) = P.y) (w : World) :
  Calls Tryz.prog 35 #[.agg (pc f g)] w fun e w'=>∃ v,e = .returned v∧NP w' v P∧Ext w w':=by
 go_enter Tryz.func35,Tryz.ntmps35
 go_upto_region 1 with fail
 obtain ⟨E0,hE0⟩ : ∃ W,W = w.alloc (.cells (pc f g) 49):=⟨_,rfl⟩
 obtain ⟨E1,hE1⟩ : ∃ W,W = E0.alloc (.cells #[.slice none 0 0,.slice none 0 0,.slice none 0 0] 57):=⟨_,rfl⟩
 rw [← hE0,← hE1]
 have s0 : E0.heap.size = w.heap.size + 1:=by rw [hE0];exact Array.size_push _
 have x0 : Ext w E0:=by rw [hE0];exact qaa _ _
 have s1 : E1.heap.size = w.heap.size + 1 + 1:=by rw [hE1,← s0];exact Array.size_push _
 have x1 : Ext E0 E1:=by rw [hE1];exact qaa _ _
 have R_q:=RV.newP w f g 49
 rw [← hE0] at R_q
 replace R_q:=R_q.ext x1
 have R_r:=R3w.new E0 (.slice none 0 0) (.slice none 0 0) (.slice none 0 0) (NF.nil _) (NF.nil _) (NF.nil _)
 rw [← hE1] at R_r
 rw [s0] at R_r
 obtain ⟨q,hb0⟩ : ∃ b,b = w.heap.size:=⟨_,rfl⟩
 obtain ⟨r,hb1⟩ : ∃ b,b = w.heap.size + 1:=⟨_,rfl⟩
 rw [← hb1] at R_r
 rw [← hb0] at R_q
 rw [← hb1,← hb0]
 have hx : Ext w E1:=((Ext.refl w).trans x0).trans x1
 have lt_q : q < E1.heap.size:=R_q.lt
 have bs_q : w.heap.size ≤ q:=by omega
 have lt_r : r < E1.heap.size:=R_r.lt
 have bs_r : w.heap.size ≤ r:=by omega
 have ne_q_r : q ≠ r:=by omega
 clear hb0 s0 x0 hE0 hb1 s1 x1 hE1
 have h3 : R3 (tf (V f)) (tf (V g)) 1 P:=by rw [hPx,hPy];exact R3.of P
 have hok : TrsOk [] E1.heap.size ([] : List Trk):=⟨by simp [tk],by simp [tk],by simp [tk],by simp [tk]⟩
 refine qag (InvF 8 (fun _ w'=>RN w' r P∧Keep [r] E1 w') (InvN [] (fun j u=>match j with | 0=>u = .pointer (some ⟨q,0,none⟩) | 1=>u = .agg (qab (f)) | 3=>u = .pointer (some ⟨q,32,none⟩) | 4=>u = .agg (qab (g)) | _=>True) (fun j=>match j with | 2=>some (tf (V (f))) | 5=>some (tf (V (g))) | 6=>some (1) | _=>none) (fun j=>match j with | 7=>some (P) | _=>none) [] E1)) qtp [(3,0),(4,1),(5,2),(6,3),(7,4),(8,5),(9,6),(10,7)] 11 (by kernel_rfl) rfl (by kernel_rfl) (InvF.start (InvN.of (Inv.start hok (by simp)))) ⟨?_,?_,?_,?_,?_,?_,?_,?_,?_,trivial⟩ ?_
 ·exact qb9 rfl rfl rfl (qay rfl rfl rfl rfl fun L v w D N I=>qal rfl rfl fPT0 ⟨rfl,Ext.refl _⟩)
 ·exact qb9 rfl rfl rfl (qay rfl rfl rfl rfl fun L v w D N I=>qma (R_q.keep0 I.inv.keep) _ rfl (I.inv.val 0 (D 0 rfl)) ldK)
 ·exact qb9 rfl rfl rfl (qap _ rfl rfl rfl rfl (fun _=>trivial) fun L v w D N I=>gNIn _ _ rfl rfl (qai (nin (f) w) (ar1 (I.inv.val 1 (D 1 rfl)))))
 ·exact qb9 rfl rfl rfl (qay rfl rfl rfl rfl fun L v w D N I=>qal rfl rfl fPT1 ⟨rfl,Ext.refl _⟩)
 ·exact qb9 rfl rfl rfl (qay rfl rfl rfl rfl fun L v w D N I=>ql9 (R_q.keep0 I.inv.keep) _ rfl (I.inv.val 3 (D 3 rfl)) ldK)
 ·exact qb9 rfl rfl rfl (qap _ rfl rfl rfl rfl (fun _=>trivial) fun L v w D N I=>gNIn _ _ rfl rfl (qai (nin (g) w) (ar1 (I.inv.val 4 (D 4 rfl)))))
 ·intro L v w hL hD hC hI
  obtain ⟨hI,hF⟩:=hI.step hL hC (by decide) (by decide)
  refine ⟨fun _=>qak.mono ?_ hF,fun hw=>by cases hw⟩
  refine hI.numv _ hL (by simp) rfl rfl (fun _=>trivial) ?_
  rw [show qaj qtp 6 = [] from rfl]
  go_simp
  exact ⟨NF.one _ _,qaa _ _⟩
 ·intro L v w hL hD hC hI
  obtain ⟨hI,hF⟩:=hI.step hL hC (by decide) (by decide)
  refine ⟨fun _=>qak.mono ?_ hF,fun hw=>by cases hw⟩
  have h2 : NF w (v 2) (tf (V (f))):=hI.num.n 2 _ (hD 2 (by decide)) rfl
  have h5 : NF w (v 5) (tf (V (g))):=hI.num.n 5 _ (hD 5 (by decide)) rfl
  have h6 : NF w (v 6) (1):=hI.num.n 6 _ (hD 6 (by decide)) rfl
  refine hI.ptv _ hL (by simp) rfl rfl (fun _=>trivial) ?_
  rw [show qaj qtp 7 = [(5,2),(8,5),(9,6)] from rfl]
  exact bd_N _ _ _ rfl h2 h5 h6 h3 fun u hu=>⟨hu,Ext.refl _⟩
 ·intro L v w hL hD hC hI
  obtain ⟨hI,hF⟩:=hI.last hL
  refine ⟨fun _=>qak.mono ?_ hF,fun hw=>by cases hw⟩
  have h7 : NP w (v 7) (P):=hI.num.p 7 _ (hD 7 (by decide)) rfl
  rw [show qaj qtp 8 = [(10,7)] from rfl]
  obtain ⟨z1,z2,z3,hR,hz1,hz2,hz3⟩:=R_r.keep hI.inv.keep (by simp) (by simp)
  exact st_N (T:=0) hR rfl (by simp [hz1.slice,hz2.slice,hz3.slice]) _ _ rfl rfl h7 fun w' hr hk=>⟨hr,(hI.inv.keep.mono (by simp)).same hk⟩
 intro L v1 W1 hL hI
 have hfin:=hI.fin (hL 8 (by decide))
 obtain ⟨hRN,hK⟩:=hfin
 simp only [putP,Act.put,zA,zB,zC]
 go_wp2
 obtain ⟨cs,hR1,hN1⟩:=hRN
 obtain ⟨fs,hu⟩:=u60
 exact bodyPost_ret (results_cell_row (p:=2) (ty:=57) rfl _ _ r _ _ (0,0) _ rfl hR1 hu rfl (by rw [List.size_toArray,hN1.cells.1];exact i60)) rfl ⟨_,rfl,hN1,Ext.keep_ hx hK (by simpa using bs_r)⟩
theorem rnought (w : World) :
  Calls Tryz.prog 64 #[] w fun e w'=>∃ v,e = .returned v∧NP w' v (Pt.zero C7)∧Ext w w':=by
 go_enter Tryz.func64,Tryz.ntmps64
 go_upto_region 1 with fail
 obtain ⟨E0,hE0⟩ : ∃ W,W = w.alloc (.cells #[.slice none 0 0,.slice none 0 0,.slice none 0 0] 57):=⟨_,rfl⟩
 rw [← hE0]
 have s0 : E0.heap.size = w.heap.size + 1:=by rw [hE0];exact Array.size_push _
 have x0 : Ext w E0:=by rw [hE0];exact qaa _ _
 have R_r:=R3w.new w (.slice none 0 0) (.slice none 0 0) (.slice none 0 0) (NF.nil _) (NF.nil _) (NF.nil _)
 rw [← hE0] at R_r
 obtain ⟨r,hb0⟩ : ∃ b,b = w.heap.size:=⟨_,rfl⟩
 rw [← hb0] at R_r
 rw [← hb0]
 have hx : Ext w E0:=(Ext.refl w).trans x0
 have lt_r : r < E0.heap.size:=R_r.lt
 have bs_r : w.heap.size ≤ r:=by omega
 clear hb0 s0 x0 hE0
 have hok : TrsOk [] E0.heap.size ([] : List Trk):=⟨by simp [tk],by simp [tk],by simp [tk],by simp [tk]⟩
 refine qac (InvF 3 (fun _ w'=>RN w' r (Pt.zero C7)∧Keep [r] E0 w') (InvN [] (fun _ _=>True) (fun j=>match j with | 0=>some (1) | 1=>some (1) | _=>none) (fun j=>match j with | 2=>some (Pt.zero C7) | _=>none) [] E0)) qv0 [(1,0),(2,1),(3,2)] 4 rfl (by kernel_rfl) (InvF.start (InvN.of (Inv.start0 hok (by simp)))) ⟨?_,?_,?_,?_,trivial⟩ ?_
 ·intro L v w hL hD hC hI
  obtain ⟨hI,hF⟩:=hI.step hL hC (by decide) (by decide)
  refine ⟨fun _=>qak.mono ?_ hF,fun hw=>by cases hw⟩
  refine hI.numv _ hL (by simp) rfl rfl (fun _=>trivial) ?_
  rw [show qaj qv0 0 = [] from rfl]
  go_simp
  exact ⟨NF.one _ _,qaa _ _⟩
 ·intro L v w hL hD hC hI
  obtain ⟨hI,hF⟩:=hI.step hL hC (by decide) (by decide)
  refine ⟨fun _=>qak.mono ?_ hF,fun hw=>by cases hw⟩
  refine hI.numv _ hL (by simp) rfl rfl (fun _=>trivial) ?_
  rw [show qaj qv0 1 = [] from rfl]
  go_simp
  exact ⟨NF.one _ _,qaa _ _⟩
 ·intro L v w hL hD hC hI
  obtain ⟨hI,hF⟩:=hI.step hL hC (by decide) (by decide)
  refine ⟨fun _=>qak.mono ?_ hF,fun hw=>by cases hw⟩
  have h0 : NF w (v 0) (1):=hI.num.n 0 _ (hD 0 (by decide)) rfl
  have h1 : NF w (v 1) (1):=hI.num.n 1 _ (hD 1 (by decide)) rfl
  refine hI.ptv _ hL (by simp) rfl rfl (fun _=>trivial) ?_
  rw [show qaj qv0 2 = [(1,0),(2,1)] from rfl]
  exact bd_N _ _ _ rfl (NF.nil _) h0 h1 R3.zero fun u hu=>⟨hu,Ext.refl _⟩
 ·intro L v w hL hD hC hI
  obtain ⟨hI,hF⟩:=hI.last hL
  refine ⟨fun _=>qak.mono ?_ hF,fun hw=>by cases hw⟩
  have h2 : NP w (v 2) (Pt.zero C7):=hI.num.p 2 _ (hD 2 (by decide)) rfl
  rw [show qaj qv0 3 = [(3,2)] from rfl]
  obtain ⟨z1,z2,z3,hR,hz1,hz2,hz3⟩:=R_r.keep hI.inv.keep (by simp) (by simp)
  exact st_N (T:=0) hR rfl (by simp [hz1.slice,hz2.slice,hz3.slice]) _ _ rfl rfl h2 fun w' hr hk=>⟨hr,(hI.inv.keep.mono (by simp)).same hk⟩
 intro L v1 W1 hL hI
 have hfin:=hI.fin (hL 3 (by decide))
 obtain ⟨hRN,hK⟩:=hfin
 simp only [putP,Act.put,zA,zB,zC]
 go_wp2
 obtain ⟨cs,hR1,hN1⟩:=hRN
 obtain ⟨fs,hu⟩:=u60
 exact bodyPost_ret (results_cell_row (p:=0) (ty:=57) rfl _ _ r _ _ (0,0) _ rfl hR1 hu rfl (by rw [List.size_toArray,hN1.cells.1];exact i60)) rfl ⟨_,rfl,hN1,Ext.keep_ hx hK (by simpa using bs_r)⟩
end Go.Proofs.YtgeihelkkhjjaaaGreatDoor
end
section
namespace Go.Proofs.YtgeihelkkhjjaaaGreatDoor
open Go.RowKit Go.Cv Go.Cv.Pr Go.Cv.Grp Go.Cv.Dig
def qt9 : List Plan:=[⟨[],[]⟩,⟨[],[]⟩,⟨[0,1],[(9,0),(7,1)]⟩]
def qua : List Plan:=[⟨[],[]⟩,⟨[],[]⟩,⟨[],[]⟩,⟨[0,1,2],[(18,0),(19,1),(20,2)]⟩,⟨[0,1,2,3],[(21,3)]⟩]
def qub : List Plan:=[⟨[],[]⟩,⟨[],[]⟩,⟨[],[]⟩,⟨[0,1,2],[(32,0),(33,1),(34,2)]⟩,⟨[0,1,2,3],[(35,3)]⟩]
def quc : List Plan:=[⟨[],[]⟩,⟨[0],[(36,0)]⟩]
theorem rtimes {w : World} {A : Option Addr} {c : Nat} {f : Nat→UInt8} {v1 v3 : Value} {P : P7} (hr : Rd w A ((qao f).map bv)) (h : NP w v1 P) (hd : NF w v3 C7.d) :
  Calls Tryz.prog 34 #[.slice A 32 c,v1,v3] w fun e w'=>∃ v,e = .returned v∧NP w' v (Pt.mul (V f) P)∧Ext w w':=by
 obtain ⟨a1,b1,c1,X,Y,Z,rfl,ha,hb,hc,h3⟩:=h
 have hadd:=@radd
 have hnou:=rnought
 generalize C7.d = d at hd hadd
 obtain ⟨N,hN⟩ : ∃ N,N = V f:=⟨_,rfl⟩
 have hNb : Hid (∀ i,i < 32→N / 2 ^ (8 * i) % 256 = (f i).toNat):=Lib.hid (fun i hi=>by rw [hN];exact V_byte f hi)
 have hN0 : N / 2 ^ 256 = 0:=Nat.div_eq_of_lt (by rw [hN];exact qeu f 32)
 rw [← hN]
 clear hN
 obtain ⟨ad,rfl,hc0⟩:=hr.at_ (k:=0) (by simp [qao])
 have hadw:=World.block_lt_of_cell? w _ hc0
 rw [add_block] at hadw
 clear hc0
 go_enter Tryz.func34,Tryz.ntmps34
 go_upto_region 1 with fail
 obtain ⟨E0,hE0⟩ : ∃ W,W = w.alloc (.cells #[a1,b1,c1] 57):=⟨_,rfl⟩
 obtain ⟨E1,hE1⟩ : ∃ W,W = E0.alloc (.cells #[.slice none 0 0,.slice none 0 0,.slice none 0 0] 57):=⟨_,rfl⟩
 rw [← hE0,← hE1]
 have s0 : E0.heap.size = w.heap.size + 1:=by rw [hE0];exact Array.size_push _
 have x0 : Ext w E0:=by rw [hE0];exact qaa _ _
 have s1 : E1.heap.size = w.heap.size + 1 + 1:=by rw [hE1,← s0];exact Array.size_push _
 have x1 : Ext E0 E1:=by rw [hE1];exact qaa _ _
 have R_q:=R3w.new w a1 b1 c1 (ha.ext (Ext.refl w)) (hb.ext (Ext.refl w)) (hc.ext (Ext.refl w))
 rw [← hE0] at R_q
 replace R_q:=R_q.ext x1
 have R_r:=R3w.new E0 (.slice none 0 0) (.slice none 0 0) (.slice none 0 0) (NF.nil _) (NF.nil _) (NF.nil _)
 rw [← hE1] at R_r
 rw [s0] at R_r
 obtain ⟨q,hb0⟩ : ∃ b,b = w.heap.size:=⟨_,rfl⟩
 obtain ⟨r,hb1⟩ : ∃ b,b = w.heap.size + 1:=⟨_,rfl⟩
 rw [← hb1] at R_r
 rw [← hb0] at R_q
 rw [← hb1,← hb0]
 have hx : Ext w E1:=((Ext.refl w).trans x0).trans x1
 have lt_q : q < E1.heap.size:=R_q.lt
 have bs_q : w.heap.size ≤ q:=by omega
 have lt_r : r < E1.heap.size:=R_r.lt
 have bs_r : w.heap.size ≤ r:=by omega
 have ne_q_r : q ≠ r:=by omega
 clear hb0 s0 x0 hE0 hb1 s1 x1 hE1
 replace R_q:=RN.of3 R_q h3
 clear ha hb hc h3
 replace hd:=hd.ext hx
 replace hr:=hr.ext hx
 have hok : TrsOk [] E1.heap.size ([(tk (some 1) 0 57 (none) (fun u=>u = .agg #[.slice none 0 0,.slice none 0 0,.slice none 0 0]) (fun _=>True))] : List Trk):=⟨by simp [tk],by simp [tk],by simp [tk],by simp [tk]⟩
 refine qac (InvF 2 (fun v w'=>∃ n,v 1 = .pointer (some ⟨n,0,none⟩)∧RN w' n (Pt.zero C7)∧E1.heap.size ≤ n∧Ext E1 w') (InvN [] (fun _ _=>True) (fun _=>none) (fun j=>match j with | 0=>some (Pt.zero C7) | _=>none) [(tk (some 1) 0 57 (none) (fun u=>u = .agg #[.slice none 0 0,.slice none 0 0,.slice none 0 0]) (fun _=>True))] E1)) qt9 [(9,0),(7,1)] 37 rfl (by kernel_rfl) (InvF.start (InvN.of (Inv.start0 hok (by simp)))) ⟨?_,?_,?_,trivial⟩ ?_
 ·exact qb9 rfl rfl rfl (qkd _ rfl rfl rfl rfl (fun _=>trivial) fun L v w D N I=>gPNou _ _ rfl rfl (hnou w))
 ·intro L v w hL hD hC hI
  obtain ⟨hI,hF⟩:=hI.step hL hC (by decide) (by decide)
  refine ⟨fun _=>qak.mono ?_ hF,fun hw=>by cases hw⟩
  refine InvN.alloc_step hok hI hL (tk (some 1) 0 57 (none) (fun u=>u = .agg #[.slice none 0 0,.slice none 0 0,.slice none 0 0]) (fun _=>True)) (by simp) rfl (by simp) (by intro s hs;cases hs) rfl rfl ?_
  rw [show qaj qt9 1 = [] from rfl]
  go_simp
  exact ⟨rfl,rfl⟩
 ·intro L v w hL hD hC hI
  obtain ⟨hI,hF⟩:=hI.last hL
  refine ⟨fun _=>qak.mono ?_ hF,fun hw=>by cases hw⟩
  have h0 : NP w (v 0) (Pt.zero C7):=hI.num.p 0 _ (hD 0 (by decide)) rfl
  rw [show qaj qt9 2 = [(9,0),(7,1)] from rfl]
  obtain ⟨n,cs,hb,lo,hr',-,ho⟩:=hI.inv.row_made (tk (some 1) 0 57 (none) (fun u=>u = .agg #[.slice none 0 0,.slice none 0 0,.slice none 0 0]) (fun _=>True)) (by simp) 1 rfl (hD 1 (by decide))
  have e:=ho (by intro s hs;cases hs)
  injection e with e
  have e2:=congrArg Array.toList e
  simp only at e2
  subst e2
  refine st_N (T:=0) hr' rfl (by simp [noI]) _ _ rfl hb h0 fun w' hr hk=>⟨n,?_,hr,lo,Ext.keep_ hI.inv.keep.to_ext hk (by simpa using lo)⟩
  show setV v 2 _ 1 = _
  rw [qbs (by decide)]
  exact hb
 intro L v1 W1 hL hI
 have hfin:=hI.fin (hL 2 (by decide))
 obtain ⟨o,hb_o,R_o,lo_o,hxo⟩:=hfin
 simp only [putP,Act.put,zA,zB,zC,hb_o]
 have ne_q_o : q ≠ o:=Nat.ne_of_lt (Nat.lt_of_lt_of_le lt_q lo_o)
 have ne_r_o : r ≠ o:=Nat.ne_of_lt (Nat.lt_of_lt_of_le lt_r lo_o)
 have bs_o : w.heap.size ≤ o:=Nat.le_trans hx.size lo_o
 replace R_q:=R_q.ext hxo
 replace R_r:=R_r.ext hxo
 replace hd:=hd.ext hxo
 replace hr:=hr.ext hxo
 replace hx:=hx.trans hxo
 have hado : ad.block ∉ [o]:=by simp;omega
 have lt_o:=R_o.lt
 replace lt_q:=R_q.lt
 replace lt_r:=R_r.lt
 clear lo_o hxo hI hL hok L
 go_upto_region 3 with fail
 go_loopw [8] (fun v8 wr=>∃ (i : Nat) (x : Int),i ≤ 256∧v8 = .int .i64 x∧Hid (x + 1 = (i : Int))∧RN wr o (Pt.mul (N / 2 ^ i) P)∧Keep [o] W1 wr) (fun v8 _=>(intOf v8 + 1).toNat)
 case atStart=>exact ⟨256,_,by decide,rfl,Lib.hid (by decide),by rw [hN0];exact R_o,Keep.refl _ _⟩
 case round =>
  have noi0:=R_o.noI
  clear R_o
  obtain ⟨i,x,hi,rfl,hxi,R_o,hK⟩:=hrel
  have noi1 : ∀ b ∈ [o],NoI W1 b:=by
   intro b hb
   rw [List.mem_singleton.1 hb]
   exact noi0
  replace R_q:=R_q.keep hK noi1 (by simp [ne_q_o,Ne.symm ne_q_o])
  replace R_r:=R_r.keep hK noi1 (by simp [ne_r_o,Ne.symm ne_r_o])
  replace hd:=hd.keep hK noi1
  replace hr:=hK.rd hr hado
  replace hx:=Ext.keep_ hx hK (by simpa using bs_o)
  clear noi1
  replace lt_q:=Nat.lt_of_lt_of_le lt_q hK.size
  replace lt_r:=Nat.lt_of_lt_of_le lt_r hK.size
  replace lt_o:=Nat.lt_of_lt_of_le lt_o hK.size
  clear noi0
  have hxi':=hxi.out
  by_cases hx0 : 0 ≤ x
  ·obtain ⟨m,rfl⟩ : ∃ m : Nat,x = (m : Int):=⟨x.toNat,by omega⟩
   obtain rfl : i = m + 1:=by omega
   have hv1 : IntKind.i64.wrap ((m : Int) - 1) = (m : Int) - 1:=IntWalk.i64_in _ (by omega)
   have hx4 : Hid ((m : Int) - 1 + 1 = (m : Int)):=Lib.hid (by omega)
   have hm : m < 256:=by omega
   clear hxi hxi'
   obtain ⟨M,hM⟩ : ∃ M,M = N / 2 ^ (m + 1):=⟨_,rfl⟩
   rw [← hM] at R_o
   have hM2 : N / 2 ^ m = 2 * M + N / 2 ^ m % 2:=by rw [hM,Nat.pow_succ,← Nat.div_div_eq_div_mul];omega
   clear hM
   replace hM2:=Lib.hid hM2
   go_upto_region 5 with fail
   have hok : TrsOk [] wr.heap.size ([] : List Trk):=⟨by simp [tk],by simp [tk],by simp [tk],by simp [tk]⟩
   refine qac (InvF 4 (fun _ w'=>RN w' o ((Pt.mul M P).add (Pt.mul M P))∧Keep [o] wr w') (InvN [] (fun _ _=>True) (fun j=>match j with | 2=>some (d) | _=>none) (fun j=>match j with | 0=>some (Pt.mul M P) | 1=>some (Pt.mul M P) | 3=>some ((Pt.mul M P).add (Pt.mul M P)) | _=>none) [] wr)) qua [(18,0),(19,1),(20,2),(21,3)] 37 rfl (by kernel_rfl) (InvF.start (InvN.of (Inv.start0 hok (by simp)))) ⟨?_,?_,?_,?_,?_,trivial⟩ ?_
   ·exact qb9 rfl rfl rfl (qkd _ rfl rfl rfl rfl (fun _=>trivial) fun L v w D N I=>ld_N (R_o.keep I.inv.keep (by simp) (by simp)) _ rfl rfl fun u hu=>⟨hu,Ext.refl _⟩)
   ·exact qb9 rfl rfl rfl (qkd _ rfl rfl rfl rfl (fun _=>trivial) fun L v w D N I=>ld_N (R_o.keep I.inv.keep (by simp) (by simp)) _ rfl rfl fun u hu=>⟨hu,Ext.refl _⟩)
   ·exact qb9 rfl rfl rfl (qap _ rfl rfl rfl rfl (fun _=>trivial) fun L v w D N I=>⟨hd.keep I.inv.keep (by simp),Ext.refl _⟩)
   ·exact qb9 rfl rfl rfl (qkd _ rfl rfl rfl rfl (fun _=>trivial) fun L v w D N I=>gPAdd _ _ rfl rfl (hadd (I.num.p 0 _ (D 0 rfl) rfl) (I.num.p 1 _ (D 1 rfl) rfl) (I.num.n 2 _ (D 2 rfl) rfl)))
   ·intro L v w hL hD hC hI
    obtain ⟨hI,hF⟩:=hI.last hL
    refine ⟨fun _=>qak.mono ?_ hF,fun hw=>by cases hw⟩
    have h3 : NP w (v 3) ((Pt.mul M P).add (Pt.mul M P)):=hI.num.p 3 _ (hD 3 (by decide)) rfl
    rw [show qaj qua 4 = [(21,3)] from rfl]
    obtain ⟨cs,hr,hN⟩:=R_o.keep hI.inv.keep (by simp) (by simp)
    exact st_N (T:=0) hr hN.cells.1 hN.cells.2 _ _ rfl rfl h3 fun w' hr hk=>⟨hr,(hI.inv.keep.mono (by simp)).same hk⟩
   intro L v2 W2 hL hI
   have hfin:=hI.fin (hL 4 (by decide))
   have noi0:=R_o.noI
   clear R_o
   obtain ⟨R_o,hK5⟩:=hfin
   simp only [putP,Act.put,zA,zB,zC]
   clear hI hL hok L
   have noi1 : ∀ b ∈ [o],NoI wr b:=by
    intro b hb
    rw [List.mem_singleton.1 hb]
    exact noi0
   replace R_q:=R_q.keep hK5 noi1 (by simp [ne_q_o,Ne.symm ne_q_o])
   replace R_r:=R_r.keep hK5 noi1 (by simp [ne_r_o,Ne.symm ne_r_o])
   replace hd:=hd.keep hK5 noi1
   replace hr:=hK5.rd hr hado
   replace hx:=Ext.keep_ hx hK5 (by simpa using bs_o)
   clear noi1
   replace lt_q:=Nat.lt_of_lt_of_le lt_q hK5.size
   replace lt_r:=Nat.lt_of_lt_of_le lt_r hK5.size
   replace lt_o:=Nat.lt_of_lt_of_le lt_o hK5.size
   replace hK:=hK.same hK5
   clear noi0 hK5
   obtain ⟨q8,hq8⟩ : ∃ q,q = m / 8:=⟨_,rfl⟩
   obtain ⟨t8,ht8⟩ : ∃ t,t = m % 8:=⟨_,rfl⟩
   have hqm : q8 < 32:=by omega
   have hqmI : (q8 : Int) < 32:=by omega
   have hq0 : 0 ≤ (q8 : Int):=by omega
   have ht0 : 0 ≤ (t8 : Int):=by omega
   have ht8' : t8 < 8:=by omega
   have ht8I : (t8 : Int) < 8:=by omega
   have d1 : (m : Int) / 8 = (q8 : Int):=by omega
   have d2 : (m : Int).tdiv 8 = (q8 : Int):=by rw [Int.tdiv_eq_ediv_of_nonneg (by omega)];omega
   have r1 : (m : Int) % 8 = (t8 : Int):=by omega
   have r2 : (m : Int).tmod 8 = (t8 : Int):=by rw [Int.tmod_eq_emod_of_nonneg (by omega)];omega
   have hbt : N / 2 ^ m % 2 = (f q8).toNat / 2 ^ t8 % 2:=by
    have:=bit_V N (f q8).toNat m (by rw [← hq8];exact hNb.out q8 hqm)
    rwa [← ht8] at this
   obtain ⟨ad2,e2,hcell⟩:=hr.at_ (k:=q8) (by simpa [qao] using hqm)
   injection e2 with e2
   subst e2
   have hcell2 : World.cell? W2 (ad.add q8) = some (.int .u8 (n8 (f q8))):=by
    rw [hcell]
    simp [qao]
   generalize f q8 = y at hcell2 hbt
   have hsh:=shr_b y t8 ht8'
   have hb2 : (y >>> UInt8.ofNat t8 &&& 1).toNat = N / 2 ^ m % 2:=by rw [bit_b y t8 ht8',hbt]
   clear hcell hbt hq8 ht8
   by_cases hbit : N / 2 ^ m % 2 = 1
   ·have hbb : (y >>> UInt8.ofNat t8 &&& 1 == 1) = true:=by
     rw [beq_iff_eq];apply UInt8.toNat_inj.1;rw [hb2,hbit];rfl
    have hfin2 : N / 2 ^ m = 2 * M + 1:=by rw [hM2.out,hbit]
    replace hfin2:=Lib.hid hfin2
    clear hb2 hbit hM2
    go_upto_region 7 with fail
    clear hbb hsh d1 d2 r1 r2 hcell2
    have hok : TrsOk [] W2.heap.size ([] : List Trk):=⟨by simp [tk],by simp [tk],by simp [tk],by simp [tk]⟩
    refine qac (InvF 4 (fun _ w'=>RN w' o (((Pt.mul M P).add (Pt.mul M P)).add P)∧Keep [o] W2 w') (InvN [] (fun _ _=>True) (fun j=>match j with | 2=>some (d) | _=>none) (fun j=>match j with | 0=>some ((Pt.mul M P).add (Pt.mul M P)) | 1=>some (P) | 3=>some (((Pt.mul M P).add (Pt.mul M P)).add (P)) | _=>none) [] W2)) qub [(32,0),(33,1),(34,2),(35,3)] 37 rfl (by kernel_rfl) (InvF.start (InvN.of (Inv.start0 hok (by simp)))) ⟨?_,?_,?_,?_,?_,trivial⟩ ?_
    ·exact qb9 rfl rfl rfl (qkd _ rfl rfl rfl rfl (fun _=>trivial) fun L v w D N I=>ld_N (R_o.keep I.inv.keep (by simp) (by simp)) _ rfl rfl fun u hu=>⟨hu,Ext.refl _⟩)
    ·exact qb9 rfl rfl rfl (qkd _ rfl rfl rfl rfl (fun _=>trivial) fun L v w D N I=>ld_N (R_q.keep I.inv.keep (by simp) (by simp)) _ rfl rfl fun u hu=>⟨hu,Ext.refl _⟩)
    ·exact qb9 rfl rfl rfl (qap _ rfl rfl rfl rfl (fun _=>trivial) fun L v w D N I=>⟨hd.keep I.inv.keep (by simp),Ext.refl _⟩)
    ·exact qb9 rfl rfl rfl (qkd _ rfl rfl rfl rfl (fun _=>trivial) fun L v w D N I=>gPAdd _ _ rfl rfl (hadd (I.num.p 0 _ (D 0 rfl) rfl) (I.num.p 1 _ (D 1 rfl) rfl) (I.num.n 2 _ (D 2 rfl) rfl)))
    ·intro L v w hL hD hC hI
     obtain ⟨hI,hF⟩:=hI.last hL
     refine ⟨fun _=>qak.mono ?_ hF,fun hw=>by cases hw⟩
     have h3 : NP w (v 3) (((Pt.mul M P).add (Pt.mul M P)).add (P)):=hI.num.p 3 _ (hD 3 (by decide)) rfl
     rw [show qaj qub 4 = [(35,3)] from rfl]
     obtain ⟨cs,hr,hN⟩:=R_o.keep hI.inv.keep (by simp) (by simp)
     exact st_N (T:=0) hr hN.cells.1 hN.cells.2 _ _ rfl rfl h3 fun w' hr hk=>⟨hr,(hI.inv.keep.mono (by simp)).same hk⟩
    intro L v3 W3 hL hI
    have hfin:=hI.fin (hL 4 (by decide))
    have noi0:=R_o.noI
    clear R_o
    obtain ⟨R_o,hK7⟩:=hfin
    simp only [putP,Act.put,zA,zB,zC]
    clear hI hL hok L
    have hKK:=hK.same hK7
    clear hK hK7
    rw [two_pt,← hfin2.out] at R_o
    go_wp2
    exact ⟨⟨m,_,Nat.le_of_lt hm,rfl,hx4,R_o,⟨hKK.os,hKK.tape,hKK.output,hKK.size,hKK.keep⟩⟩,by simp [intOf];try omega⟩
   ·have hbb : (y >>> UInt8.ofNat t8 &&& 1 == 1) = false:=by
     rw [beq_eq_false_iff_ne];intro e;rw [e] at hb2;exact hbit hb2.symm
    have hfin2 : N / 2 ^ m = 2 * M:=by rw [hM2.out];omega
    replace hfin2:=Lib.hid hfin2
    clear hb2 hbit hM2
    rw [qcq,← hfin2.out] at R_o
    go_wp2
    exact ⟨⟨m,_,Nat.le_of_lt hm,rfl,hx4,R_o,⟨hK.os,hK.tape,hK.output,hK.size,hK.keep⟩⟩,by simp [intOf];try omega⟩
  ·obtain rfl : x = -1:=by omega
   obtain rfl : i = 0:=by omega
   rw [Nat.pow_zero,Nat.div_one] at R_o
   clear hxi hxi' hK
   go_upto_region 8 with fail
   have hok : TrsOk [] wr.heap.size ([] : List Trk):=⟨by simp [tk],by simp [tk],by simp [tk],by simp [tk]⟩
   refine qac (InvF 1 (fun _ w'=>RN w' r (Pt.mul N P)∧Keep [r] wr w') (InvN [] (fun _ _=>True) (fun _=>none) (fun j=>match j with | 0=>some (Pt.mul N P) | _=>none) [] wr)) quc [(36,0)] 37 rfl (by kernel_rfl) (InvF.start (InvN.of (Inv.start0 hok (by simp)))) ⟨?_,?_,trivial⟩ ?_
   ·exact qb9 rfl rfl rfl (qkd _ rfl rfl rfl rfl (fun _=>trivial) fun L v w D N I=>ld_N (R_o.keep I.inv.keep (by simp) (by simp)) _ rfl rfl fun u hu=>⟨hu,Ext.refl _⟩)
   ·intro L v w hL hD hC hI
    obtain ⟨hI,hF⟩:=hI.last hL
    refine ⟨fun _=>qak.mono ?_ hF,fun hw=>by cases hw⟩
    have h0 : NP w (v 0) (Pt.mul N P):=hI.num.p 0 _ (hD 0 (by decide)) rfl
    rw [show qaj quc 1 = [(36,0)] from rfl]
    obtain ⟨z1,z2,z3,hR,hz1,hz2,hz3⟩:=R_r.keep hI.inv.keep (by simp) (by simp)
    exact st_N (T:=0) hR rfl (by simp [hz1.slice,hz2.slice,hz3.slice]) _ _ rfl rfl h0 fun w' hr hk=>⟨hr,(hI.inv.keep.mono (by simp)).same hk⟩
   intro L v2 W2 hL hI
   have hfin:=hI.fin (hL 1 (by decide))
   obtain ⟨hRN,hK⟩:=hfin
   simp only [putP,Act.put,zA,zB,zC]
   go_wp2
   obtain ⟨cs,hR1,hN1⟩:=hRN
   obtain ⟨fs,hu⟩:=u60
   exact bodyPost_ret (results_cell_row (p:=6) (ty:=57) rfl _ _ r _ _ (0,0) _ rfl hR1 hu rfl (by rw [List.size_toArray,hN1.cells.1];exact i60)) rfl ⟨_,rfl,hN1,Ext.keep_ hx hK (by simpa using bs_r)⟩
end Go.Proofs.YtgeihelkkhjjaaaGreatDoor
end
section
namespace Go.Cv
open Go.RowKit Go.Cv.Pr Go.Cv.Grp
theorem top_odd (b : UInt8) (h : (128 : Int) ≤ n8 b) : b - 128 = b &&& 127∧(b >>> 7 == 1) = true:=by
 have h1 : 128 ≤ b.toNat:=by unfold n8 at h;omega
 have h2:=b.toNat_lt
 refine ⟨?_,?_⟩
 ·apply UInt8.toNat_inj.1
  have e1 : (128 : UInt8).toNat = 128:=rfl
  rw [UInt8.toNat_and,UInt8.toNat_sub,e1]
  show _ = b.toNat &&& (2 ^ 7 - 1)
  rw [Nat.and_two_pow_sub_one_eq_mod]
  omega
 ·rw [beq_iff_eq]
  apply UInt8.toNat_inj.1
  rw [show (b >>> 7).toNat = b.toNat / 2 ^ 7 from qc9 b 7 (by decide)]
  show _ = 1
  omega
theorem top_even (b : UInt8) (h : ¬ (128 : Int) ≤ n8 b) : b = b &&& 127∧(b >>> 7 == 1) = false:=by
 have h1 : b.toNat < 128:=by unfold n8 at h;omega
 refine ⟨?_,?_⟩
 ·apply UInt8.toNat_inj.1
  rw [UInt8.toNat_and]
  show _ = b.toNat &&& (2 ^ 7 - 1)
  rw [Nat.and_two_pow_sub_one_eq_mod]
  omega
 ·rw [beq_eq_false_iff_ne]
  intro e
  have h2:=congrArg UInt8.toNat e
  rw [show (b >>> 7).toNat = b.toNat / 2 ^ 7 from qc9 b 7 (by decide)] at h2
  have : (1 : UInt8).toNat = 1:=rfl
  omega
theorem qrl (b : Nat→UInt8) (L : Nat) (hL : L = pp) : decX b = if V (decG b) < L then (if okF (decU (decY b)) = true then (if (b 31 >>> 7 == 1) = true then (if rtF (decU (decY b)) = 0 then none else some (0 - rtF (decU (decY b)))) else some (rtF (decU (decY b)))) else none) else none:=by
 subst hL
 rfl
end Go.Cv
namespace Go.Proofs.YtgeihelkkhjjaaaGreatDoor
open Go.RowKit Go.Cv Go.Cv.Pr Go.Cv.Grp Go.Cv.Dig
theorem NF.len {w : World} {A : Option Addr} {n c : Nat} {x : F7} (h : NF w (.slice A n c) x) : n = 0 ↔ x = 0:=by
 obtain ⟨A',n',c',l,e,h1,h2,hr,hc,hv,hn⟩:=h
 injection e with e1 e2 e3
 subst e2
 constructor
 ·intro h0
  have : l = []:=List.length_eq_zero_iff.1 (by omega)
  subst this
  exact Fin.ext hv.symm
 ·intro h0
  rw [h0] at hv
  have:=hc.zero hv
  rw [this] at h1
  exact h1.symm
noncomputable def rdV (d : Option F7) (y : F7) : Array Value:=match d with | none=>#[.agg (pc (fun _=>0) (fun _=>0)),.bool false] | some x=>#[.agg (pc (fb x) (fb y)),.bool true]
theorem qfd (y : F7) : rdV none y = #[.agg (pc (fun _=>0) (fun _=>0)),.bool false]:=rfl
theorem qhl (x y : F7) : rdV (some x) y = #[.agg (pc (fb x) (fb y)),.bool true]:=rfl
def qup : List Plan:=[⟨[],[]⟩,⟨[0],[(22,0)]⟩,⟨[0,1],[]⟩]
def quq : List Plan:=[⟨[],[]⟩,⟨[0],[(38,0)]⟩,⟨[0,1],[]⟩]
def qun : List Plan:=[⟨[],[]⟩,⟨[0],[(42,0)]⟩,⟨[],[]⟩,⟨[0,1,2],[(44,2)]⟩,⟨[0,1,2,3],[(43,1),(45,3)]⟩,⟨[0,1,2,3,4],[(46,4)]⟩,⟨[0,1,2,3,4,5],[]⟩]
theorem qjl (b : Nat→UInt8) (w : World) :
  Calls Tryz.prog 29 #[.agg (qab b)] w fun e w'=>e = .returned (.tuple (rdV (decX b) (decY b)))∧Ext w w':=by
 have hG:=low_p (decG b)
 obtain ⟨g,hg⟩ : ∃ g,g = decG b:=⟨_,rfl⟩
 obtain ⟨y,hy⟩ : ∃ y,y = decY b:=⟨_,rfl⟩
 obtain ⟨U,hU⟩ : ∃ U,U = decU y:=⟨_,rfl⟩
 have hyg : y = tf (V g):=by rw [hy,hg];rfl
 obtain ⟨d,hd⟩ : ∃ d,d = decX b:=⟨_,rfl⟩
 obtain ⟨L,hL⟩ : ∃ L,L = pp:=⟨_,rfl⟩
 rw [← hd,← hy]
 rw [qrl b L hL,← hg,← hy,← hU] at hd
 have hpn : ∀ w,Calls Tryz.prog 59 #[] w fun e w'=>∃ v,e = .returned v∧Num w' v L 11∧Ext w w':=by rw [hL];exact p_num
 have hyv : V g < L→y.val = V g:=fun h=>by rw [hyg];exact Nat.mod_eq_of_lt (by rw [← hL];exact h)
 have hX : ∀ {w : World} {v1 : Value},NF w v1 y→Calls Tryz.prog 60 #[v1] w fun e w'=>∃ v,e = .returned (.tuple #[v,.bool (okF U)])∧(okF U = true→NF w' v (rtF U))∧Ext w w':=fun h=>by rw [hU];exact nxof h
 have hg' : g = updb b 31 (b 31 &&& 127):=hg
 clear hg hU hy hG hL
 replace hg':=Lib.hid hg'
 replace hd:=Lib.hid hd
 replace hyg:=Lib.hid hyg
 go_enter Tryz.func29,Tryz.ntmps29
 go_upto_region 1 with fail
 obtain ⟨E0,hE0⟩ : ∃ W,W = w.alloc (.cells (qab b) 22):=⟨_,rfl⟩
 obtain ⟨E1,hE1⟩ : ∃ W,W = E0.alloc (.cells (pc (fun _=>0) (fun _=>0)) 49):=⟨_,rfl⟩
 rw [← hE0,← hE1]
 have s0 : E0.heap.size = w.heap.size + 1:=by rw [hE0];exact Array.size_push _
 have x0 : Ext w E0:=by rw [hE0];exact qaa _ _
 have s1 : E1.heap.size = w.heap.size + 1 + 1:=by rw [hE1,← s0];exact Array.size_push _
 have x1 : Ext E0 E1:=by rw [hE1];exact qaa _ _
 have R_n1:=RV.newB w b 22
 rw [← hE0] at R_n1
 replace R_n1:=R_n1.ext x1
 have R_r:=RV.newP E0 (fun _=>0) (fun _=>0) 49
 rw [← hE1] at R_r
 rw [s0] at R_r
 obtain ⟨n1,hb0⟩ : ∃ b,b = w.heap.size:=⟨_,rfl⟩
 obtain ⟨r,hb1⟩ : ∃ b,b = w.heap.size + 1:=⟨_,rfl⟩
 rw [← hb1] at R_r
 rw [← hb0] at R_n1
 rw [← hb1,← hb0]
 have hx : Ext w E1:=((Ext.refl w).trans x0).trans x1
 have lt_n1 : n1 < E1.heap.size:=R_n1.lt
 have bs_n1 : w.heap.size ≤ n1:=by omega
 have lt_r : r < E1.heap.size:=R_r.lt
 have bs_r : w.heap.size ≤ r:=by omega
 have ne_n1_r : n1 ≠ r:=by omega
 clear hb0 s0 x0 hE0 hb1 s1 x1 hE1
 have e1:=R_n1.byte (i:=31) (by decide)
 have e3:=R_n1.fro 31
 by_cases ht : (128 : Int) ≤ n8 (b 31)
 ·obtain ⟨hm,ho⟩:=top_odd _ ht
  go_upto_region 4 with fail
  try rw [hm]
  obtain ⟨W4,hW4⟩ : ∃ W4,W4 = E1.setCell ⟨n1,31,none⟩ (.int .u8 (n8 (b 31 &&& 127))):=⟨_,rfl⟩
  rw [← hW4]
  have hk : Keep [n1] E1 W4:=by rw [hW4];exact Keep.setCell _ ⟨n1,31,none⟩ _
  have R5:=R_n1.set 31 (b 31 &&& 127)
  rw [← hW4,← hg'.out] at R5
  clear R_n1 e1 e3
  have R_n1 : RV W4 n1 22 (fun u=>u = .agg (qab g)):=R5
  clear R5
  replace R_r:=R_r.keep hk (by simp [ne_n1_r,Ne.symm ne_n1_r])
  replace hx:=Ext.keep_ hx hk (by simpa using bs_n1)
  clear hW4 hm ht
  replace lt_n1:=Nat.lt_of_lt_of_le lt_n1 hk.size
  replace lt_r:=Nat.lt_of_lt_of_le lt_r hk.size
  clear hk hg'
  replace ho:=Lib.hid ho
  by_cases hlt : V g < L
  rotate_left
  ·skip
   have hdd : Hid (d = none):=Lib.hid (by rw [hd.out,if_neg hlt])
   go_upto_region 6 with (first | (go_at_call 31;with_reducible refine (qkn n1 g _ R_n1).mono ?_;rintro e w1 ⟨v1,rfl,hv1,hx1⟩) | (go_at_call 59;with_reducible refine (hpn w1).mono ?_;rintro e w2 ⟨v2,rfl,hv2,hx2⟩) | (go_at_call 30;with_reducible refine (qc7 w2 v1 v2 _ _ (hv1.ext hx2) hv2).mono ?_;rintro e w3 ⟨c3,rfl,hc3,hx3⟩;have hc4 : 0 ≤ c3:=by unfold qfm at hc3;omega))
   have hx123:=hx1.trans (hx2.trans hx3)
   clear hx1 hx2 hx3 hv1 hv2 hc3 hc4
   replace R_n1:=R_n1.ext hx123
   replace R_r:=R_r.ext hx123
   replace lt_n1:=Nat.lt_of_lt_of_le lt_n1 hx123.size
   replace lt_r:=Nat.lt_of_lt_of_le lt_r hx123.size
   replace hx:=hx.trans hx123
   have hok : TrsOk [r] w3.heap.size ([(tk (none) r 49 (some 1) (fun u=>u = .agg (pc (fun _=>0) (fun _=>0))) (fun u=>u = .agg (pc (fun _=>0) (fun _=>0))))] : List Trk):=⟨by simp [tk,R_r.lt],by simp [tk],by simp [tk],by simp [tk]⟩
   have noi_r : NoI w3 r:=R_r.noP
   refine qac (InvN [r] (fun j u=>match j with | 0=>u = .agg (pc (fun _=>0) (fun _=>0)) | 2=>u = .bool false | _=>True) (fun _=>none) (fun _=>none) [(tk (none) r 49 (some 1) (fun u=>u = .agg (pc (fun _=>0) (fun _=>0))) (fun u=>u = .agg (pc (fun _=>0) (fun _=>0))))] w3) qup [(22,0),(3,2)] 47 rfl (by kernel_rfl) (InvN.of (Inv.start0 hok (by
     simp only [zD,zE,zF,zG,zH]
     exact fun _=>R_r))) ⟨?_,?_,?_,trivial⟩ ?_
   ·exact qay rfl rfl rfl rfl fun L v w D N I=>qct rfl ⟨rfl,Ext.refl _⟩
   ·exact qfq 0 rfl rfl rfl rfl rfl rfl rfl (fun _ h=>noP_ h) hok fun L v w D I cs hR ho=>st_P hR (by rw [qbz ho];exact qa1 _ _) _ _ rfl rfl (I.inv.val 0 (D 0 rfl)) fun _ c a b k=>⟨trivial,k,c,a,b⟩
   ·exact qay rfl rfl rfl rfl fun L v w D N I=>⟨rfl,Ext.refl _⟩
   intro L v1 W1 hL hI
   replace R_n1:=R_n1.keep1 hI.inv.keep ne_n1_r
   clear noi_r
   replace R_r:=hI.inv.new 0 rfl (hL 1 (by decide))
   replace lt_n1:=ltk lt_n1 hI.inv.keep.size
   replace lt_r:=ltk lt_r hI.inv.keep.size
   replace hx:=hx.keep1 hI.inv.keep bs_r
   have hs_3_6 : (v1 2) = .bool false:=hI.inv.val 2 (hL 2 (by decide))
   clear hI hL hok L
   simp only [putP,Act.put,zA,zB,zC,hs_3_6]
   go_wp2
   refine bodyPost_ret (qbf rfl _ R_r rfl) rfl ?_
   refine ⟨?_,hx⟩
   rw [hdd.out,qfd]
   rfl
  ·have hdl:=hd.out
   rw [if_pos hlt] at hdl
   replace hd:=Lib.hid hdl
   clear hdl
   go_upto_region 7 with (first | (go_at_call 31;with_reducible refine (qkn n1 g _ R_n1).mono ?_;rintro e w1 ⟨v1,rfl,hv1,hx1⟩) | (go_at_call 59;with_reducible refine (hpn w1).mono ?_;rintro e w2 ⟨v2,rfl,hv2,hx2⟩) | (go_at_call 30;with_reducible refine (qc7 w2 v1 v2 _ _ (hv1.ext hx2) hv2).mono ?_;rintro e w3 ⟨c3,rfl,hc3,hx3⟩;have hc4 : ¬ 0 ≤ c3:=by unfold qfm at hc3;omega))
   have hn5 : NF w3 v1 y:=by
    unfold NF
    rw [hyv hlt]
    exact hv1.ext (hx2.trans hx3)
   have hx123:=hx1.trans (hx2.trans hx3)
   clear hx1 hx2 hx3 hv1 hv2 hc3 hc4 hyv hpn
   replace R_n1:=R_n1.ext hx123
   replace R_r:=R_r.ext hx123
   replace lt_n1:=Nat.lt_of_lt_of_le lt_n1 hx123.size
   replace lt_r:=Nat.lt_of_lt_of_le lt_r hx123.size
   replace hx:=hx.trans hx123
   go_upto_region 8 with (go_at_call 60;with_reducible refine (hX hn5).mono ?_;rintro e w7 ⟨v7,rfl,hv7,hx7⟩)
   replace R_n1:=R_n1.ext hx7
   replace R_r:=R_r.ext hx7
   replace lt_n1:=Nat.lt_of_lt_of_le lt_n1 hx7.size
   replace lt_r:=Nat.lt_of_lt_of_le lt_r hx7.size
   replace hn5:=hn5.ext hx7
   replace hx:=hx.trans hx7
   clear hX
   cases hok : okF U
   ·skip
    have hdd : Hid (d = none):=Lib.hid (by rw [hd.out,if_neg (by rw [hok];decide)])
    clear hok
    go_upto_region 9 with fail
    have hok : TrsOk [r] w7.heap.size ([(tk (none) r 49 (some 1) (fun u=>u = .agg (pc (fun _=>0) (fun _=>0))) (fun u=>u = .agg (pc (fun _=>0) (fun _=>0))))] : List Trk):=⟨by simp [tk,R_r.lt],by simp [tk],by simp [tk],by simp [tk]⟩
    have noi_r : NoI w7 r:=R_r.noP
    refine qac (InvN [r] (fun j u=>match j with | 0=>u = .agg (pc (fun _=>0) (fun _=>0)) | 2=>u = .bool false | _=>True) (fun _=>none) (fun _=>none) [(tk (none) r 49 (some 1) (fun u=>u = .agg (pc (fun _=>0) (fun _=>0))) (fun u=>u = .agg (pc (fun _=>0) (fun _=>0))))] w7) quq [(38,0),(3,2)] 47 rfl (by kernel_rfl) (InvN.of (Inv.start0 hok (by
      simp only [zD,zE,zF,zG,zH]
      exact fun _=>R_r))) ⟨?_,?_,?_,trivial⟩ ?_
    ·exact qay rfl rfl rfl rfl fun L v w D N I=>qct rfl ⟨rfl,Ext.refl _⟩
    ·exact qfq 0 rfl rfl rfl rfl rfl rfl rfl (fun _ h=>noP_ h) hok fun L v w D I cs hR ho=>st_P hR (by rw [qbz ho];exact qa1 _ _) _ _ rfl rfl (I.inv.val 0 (D 0 rfl)) fun _ c a b k=>⟨trivial,k,c,a,b⟩
    ·exact qay rfl rfl rfl rfl fun L v w D N I=>⟨rfl,Ext.refl _⟩
    intro L v1 W1 hL hI
    replace R_n1:=R_n1.keep1 hI.inv.keep ne_n1_r
    replace hn5:=hn5.keep hI.inv.keep (by simp [noi_r])
    clear noi_r
    replace R_r:=hI.inv.new 0 rfl (hL 1 (by decide))
    replace lt_n1:=ltk lt_n1 hI.inv.keep.size
    replace lt_r:=ltk lt_r hI.inv.keep.size
    replace hx:=hx.keep1 hI.inv.keep bs_r
    have hs_3_9 : (v1 2) = .bool false:=hI.inv.val 2 (hL 2 (by decide))
    clear hI hL hok L
    simp only [putP,Act.put,zA,zB,zC,hs_3_9]
    go_wp2
    refine bodyPost_ret (qbf rfl _ R_r rfl) rfl ?_
    refine ⟨?_,hx⟩
    rw [hdd.out,qfd]
    rfl
   ·have hn6:=hv7 hok
    have hdl:=hd.out
    rw [if_pos hok] at hdl
    clear hd hok hv7
    obtain ⟨A,n,c,rfl⟩:=hn6.sl
    have hlen:=hn6.len
    rw [if_pos ho.out] at hdl
    by_cases hz : rtF U = 0
    ·skip
     rw [if_pos hz] at hdl
     have hn0 : n = 0:=hlen.2 hz
     replace hdl:=Lib.hid hdl
     subst hn0
     clear hlen hz
     go_upto_region 9 with fail
     have hok : TrsOk [r] w7.heap.size ([(tk (none) r 49 (some 1) (fun u=>u = .agg (pc (fun _=>0) (fun _=>0))) (fun u=>u = .agg (pc (fun _=>0) (fun _=>0))))] : List Trk):=⟨by simp [tk,R_r.lt],by simp [tk],by simp [tk],by simp [tk]⟩
     have noi_r : NoI w7 r:=R_r.noP
     refine qac (InvN [r] (fun j u=>match j with | 0=>u = .agg (pc (fun _=>0) (fun _=>0)) | 2=>u = .bool false | _=>True) (fun _=>none) (fun _=>none) [(tk (none) r 49 (some 1) (fun u=>u = .agg (pc (fun _=>0) (fun _=>0))) (fun u=>u = .agg (pc (fun _=>0) (fun _=>0))))] w7) quq [(38,0),(3,2)] 47 rfl (by kernel_rfl) (InvN.of (Inv.start0 hok (by
       simp only [zD,zE,zF,zG,zH]
       exact fun _=>R_r))) ⟨?_,?_,?_,trivial⟩ ?_
     ·exact qay rfl rfl rfl rfl fun L v w D N I=>qct rfl ⟨rfl,Ext.refl _⟩
     ·exact qfq 0 rfl rfl rfl rfl rfl rfl rfl (fun _ h=>noP_ h) hok fun L v w D I cs hR ho=>st_P hR (by rw [qbz ho];exact qa1 _ _) _ _ rfl rfl (I.inv.val 0 (D 0 rfl)) fun _ c a b k=>⟨trivial,k,c,a,b⟩
     ·exact qay rfl rfl rfl rfl fun L v w D N I=>⟨rfl,Ext.refl _⟩
     intro L v1 W1 hL hI
     replace R_n1:=R_n1.keep1 hI.inv.keep ne_n1_r
     replace hn5:=hn5.keep hI.inv.keep (by simp [noi_r])
     replace hn6:=hn6.keep hI.inv.keep (by simp [noi_r])
     clear noi_r
     replace R_r:=hI.inv.new 0 rfl (hL 1 (by decide))
     replace lt_n1:=ltk lt_n1 hI.inv.keep.size
     replace lt_r:=ltk lt_r hI.inv.keep.size
     replace hx:=hx.keep1 hI.inv.keep bs_r
     have hs_3_9 : (v1 2) = .bool false:=hI.inv.val 2 (hL 2 (by decide))
     clear hI hL hok L
     simp only [putP,Act.put,zA,zB,zC,hs_3_9]
     go_wp2
     refine bodyPost_ret (qbf rfl _ R_r rfl) rfl ?_
     refine ⟨?_,hx⟩
     rw [hdl.out,qfd]
     rfl
    ·skip
     rw [if_neg hz] at hdl
     have hn0 : ¬ n = 0:=fun h=>hz (hlen.1 h)
     have hn0I : ¬ (n : Int) = 0:=by omega
     have hn0b : ((n : Int) == 0) = false:=by simpa using hn0
     replace hdl:=Lib.hid hdl
     clear hlen hz
     go_upto_region 11 with fail
     clear hn0 hn0I hn0b
     go_upto_region 12 with (go_at_call 61;with_reducible refine (nsub (NF.nil _) hn6).mono ?_;rintro e w11 ⟨v11,rfl,hv11,hx11⟩)
     clear hn6
     have hn6:=hv11
     clear hv11
     replace R_n1:=R_n1.ext hx11
     replace R_r:=R_r.ext hx11
     replace lt_n1:=Nat.lt_of_lt_of_le lt_n1 hx11.size
     replace lt_r:=Nat.lt_of_lt_of_le lt_r hx11.size
     replace hn5:=hn5.ext hx11
     replace hx:=hx.trans hx11
     have hok : TrsOk [r] w11.heap.size ([(tk (none) r 49 (some 5) (fun u=>u = .agg (pc (fun _=>0) (fun _=>0))) (fun u=>u = .agg (pc (fb (0 - rtF U)) (fb (y)))))] : List Trk):=⟨by simp [tk,R_r.lt],by simp [tk],by simp [tk],by simp [tk]⟩
     have noi_r : NoI w11 r:=R_r.noP
     refine qac (InvN [r] (fun j u=>match j with | 1=>u = .agg (qab (fb (0 - rtF U))) | 3=>u = .agg (qab (fb (y))) | 4=>u = .agg (pc (fb (0 - rtF U)) (fb (y))) | 6=>u = .bool true | _=>True) (fun j=>match j with | 0=>some (0 - rtF U) | 2=>some (y) | _=>none) (fun _=>none) [(tk (none) r 49 (some 5) (fun u=>u = .agg (pc (fun _=>0) (fun _=>0))) (fun u=>u = .agg (pc (fb (0 - rtF U)) (fb (y)))))] w11) qun [(42,0),(43,1),(44,2),(45,3),(46,4),(3,6)] 47 rfl (by kernel_rfl) (InvN.of (Inv.start0 hok (by
       simp only [zD,zE,zF,zG,zH]
       exact fun _=>R_r))) ⟨?_,?_,?_,?_,?_,?_,?_,trivial⟩ ?_
     ·exact qap _ rfl rfl rfl rfl (fun _=>trivial) fun L v w D N I=>⟨hn6.keep I.inv.keep (by simp [noi_r]),Ext.refl _⟩
     ·exact qay rfl rfl rfl rfl fun L v w D N I=>qd5 _ _ rfl rfl (qaf (qey (I.num.n 0 _ (D 0 rfl) rfl)))
     ·exact qap _ rfl rfl rfl rfl (fun _=>trivial) fun L v w D N I=>⟨hn5.keep I.inv.keep (by simp [noi_r]),Ext.refl _⟩
     ·exact qay rfl rfl rfl rfl fun L v w D N I=>qd5 _ _ rfl rfl (qaf (qey (I.num.n 2 _ (D 2 rfl) rfl)))
     ·exact qay rfl rfl rfl rfl fun L v w D N I=>bd_P _ _ rfl (I.inv.val 1 (D 1 rfl)) (I.inv.val 3 (D 3 rfl)) ldK
     ·exact qfq 0 rfl rfl rfl rfl rfl rfl rfl (fun _ h=>noP_ h) hok fun L v w D I cs hR ho=>st_P hR (by rw [qbz ho];exact qa1 _ _) _ _ rfl rfl (I.inv.val 4 (D 4 rfl)) fun _ c a b k=>⟨trivial,k,c,a,b⟩
     ·exact qay rfl rfl rfl rfl fun L v w D N I=>⟨rfl,Ext.refl _⟩
     intro L v1 W1 hL hI
     replace R_n1:=R_n1.keep1 hI.inv.keep ne_n1_r
     replace hn5:=hn5.keep hI.inv.keep (by simp [noi_r])
     replace hn6:=hn6.keep hI.inv.keep (by simp [noi_r])
     clear noi_r
     replace R_r:=hI.inv.new 0 rfl (hL 5 (by decide))
     replace lt_n1:=ltk lt_n1 hI.inv.keep.size
     replace lt_r:=ltk lt_r hI.inv.keep.size
     replace hx:=hx.keep1 hI.inv.keep bs_r
     have hs_3_12 : (v1 6) = .bool true:=hI.inv.val 6 (hL 6 (by decide))
     clear hI hL hok L
     simp only [putP,Act.put,zA,zB,zC,hs_3_12]
     go_wp2
     refine bodyPost_ret (qbf rfl _ R_r rfl) rfl ?_
     refine ⟨?_,hx⟩
     rw [hdl.out,qhl]
     rfl
 ·obtain ⟨hm,ho⟩:=top_even _ ht
  replace hm:=Lib.hid hm
  go_upto_region 4 with fail
  have hgb : qab b = qab g:=by
   rw [hg'.out,← hm.out]
   exact qbm fun i _=>by
    unfold updb
    split
    ·rename_i e;rw [e]
    ·rfl
  rw [hgb] at R_n1
  clear hgb hm e1 e3 hg'
  replace ho:=Lib.hid ho
  by_cases hlt : V g < L
  rotate_left
  ·skip
   have hdd : Hid (d = none):=Lib.hid (by rw [hd.out,if_neg hlt])
   go_upto_region 6 with (first | (go_at_call 31;with_reducible refine (qkn n1 g _ R_n1).mono ?_;rintro e w1 ⟨v1,rfl,hv1,hx1⟩) | (go_at_call 59;with_reducible refine (hpn w1).mono ?_;rintro e w2 ⟨v2,rfl,hv2,hx2⟩) | (go_at_call 30;with_reducible refine (qc7 w2 v1 v2 _ _ (hv1.ext hx2) hv2).mono ?_;rintro e w3 ⟨c3,rfl,hc3,hx3⟩;have hc4 : 0 ≤ c3:=by unfold qfm at hc3;omega))
   have hx123:=hx1.trans (hx2.trans hx3)
   clear hx1 hx2 hx3 hv1 hv2 hc3 hc4
   replace R_n1:=R_n1.ext hx123
   replace R_r:=R_r.ext hx123
   replace lt_n1:=Nat.lt_of_lt_of_le lt_n1 hx123.size
   replace lt_r:=Nat.lt_of_lt_of_le lt_r hx123.size
   replace hx:=hx.trans hx123
   have hok : TrsOk [r] w3.heap.size ([(tk (none) r 49 (some 1) (fun u=>u = .agg (pc (fun _=>0) (fun _=>0))) (fun u=>u = .agg (pc (fun _=>0) (fun _=>0))))] : List Trk):=⟨by simp [tk,R_r.lt],by simp [tk],by simp [tk],by simp [tk]⟩
   have noi_r : NoI w3 r:=R_r.noP
   refine qac (InvN [r] (fun j u=>match j with | 0=>u = .agg (pc (fun _=>0) (fun _=>0)) | 2=>u = .bool false | _=>True) (fun _=>none) (fun _=>none) [(tk (none) r 49 (some 1) (fun u=>u = .agg (pc (fun _=>0) (fun _=>0))) (fun u=>u = .agg (pc (fun _=>0) (fun _=>0))))] w3) qup [(22,0),(3,2)] 47 rfl (by kernel_rfl) (InvN.of (Inv.start0 hok (by
     simp only [zD,zE,zF,zG,zH]
     exact fun _=>R_r))) ⟨?_,?_,?_,trivial⟩ ?_
   ·exact qay rfl rfl rfl rfl fun L v w D N I=>qct rfl ⟨rfl,Ext.refl _⟩
   ·exact qfq 0 rfl rfl rfl rfl rfl rfl rfl (fun _ h=>noP_ h) hok fun L v w D I cs hR ho=>st_P hR (by rw [qbz ho];exact qa1 _ _) _ _ rfl rfl (I.inv.val 0 (D 0 rfl)) fun _ c a b k=>⟨trivial,k,c,a,b⟩
   ·exact qay rfl rfl rfl rfl fun L v w D N I=>⟨rfl,Ext.refl _⟩
   intro L v1 W1 hL hI
   replace R_n1:=R_n1.keep1 hI.inv.keep ne_n1_r
   clear noi_r
   replace R_r:=hI.inv.new 0 rfl (hL 1 (by decide))
   replace lt_n1:=ltk lt_n1 hI.inv.keep.size
   replace lt_r:=ltk lt_r hI.inv.keep.size
   replace hx:=hx.keep1 hI.inv.keep bs_r
   have hs_3_6 : (v1 2) = .bool false:=hI.inv.val 2 (hL 2 (by decide))
   clear hI hL hok L
   simp only [putP,Act.put,zA,zB,zC,hs_3_6]
   go_wp2
   refine bodyPost_ret (qbf rfl _ R_r rfl) rfl ?_
   refine ⟨?_,hx⟩
   rw [hdd.out,qfd]
   rfl
  ·have hdl:=hd.out
   rw [if_pos hlt] at hdl
   replace hd:=Lib.hid hdl
   clear hdl
   go_upto_region 7 with (first | (go_at_call 31;with_reducible refine (qkn n1 g _ R_n1).mono ?_;rintro e w1 ⟨v1,rfl,hv1,hx1⟩) | (go_at_call 59;with_reducible refine (hpn w1).mono ?_;rintro e w2 ⟨v2,rfl,hv2,hx2⟩) | (go_at_call 30;with_reducible refine (qc7 w2 v1 v2 _ _ (hv1.ext hx2) hv2).mono ?_;rintro e w3 ⟨c3,rfl,hc3,hx3⟩;have hc4 : ¬ 0 ≤ c3:=by unfold qfm at hc3;omega))
   have hn5 : NF w3 v1 y:=by
    unfold NF
    rw [hyv hlt]
    exact hv1.ext (hx2.trans hx3)
   have hx123:=hx1.trans (hx2.trans hx3)
   clear hx1 hx2 hx3 hv1 hv2 hc3 hc4 hyv hpn
   replace R_n1:=R_n1.ext hx123
   replace R_r:=R_r.ext hx123
   replace lt_n1:=Nat.lt_of_lt_of_le lt_n1 hx123.size
   replace lt_r:=Nat.lt_of_lt_of_le lt_r hx123.size
   replace hx:=hx.trans hx123
   go_upto_region 8 with (go_at_call 60;with_reducible refine (hX hn5).mono ?_;rintro e w7 ⟨v7,rfl,hv7,hx7⟩)
   replace R_n1:=R_n1.ext hx7
   replace R_r:=R_r.ext hx7
   replace lt_n1:=Nat.lt_of_lt_of_le lt_n1 hx7.size
   replace lt_r:=Nat.lt_of_lt_of_le lt_r hx7.size
   replace hn5:=hn5.ext hx7
   replace hx:=hx.trans hx7
   clear hX
   cases hok : okF U
   ·skip
    have hdd : Hid (d = none):=Lib.hid (by rw [hd.out,if_neg (by rw [hok];decide)])
    clear hok
    go_upto_region 9 with fail
    have hok : TrsOk [r] w7.heap.size ([(tk (none) r 49 (some 1) (fun u=>u = .agg (pc (fun _=>0) (fun _=>0))) (fun u=>u = .agg (pc (fun _=>0) (fun _=>0))))] : List Trk):=⟨by simp [tk,R_r.lt],by simp [tk],by simp [tk],by simp [tk]⟩
    have noi_r : NoI w7 r:=R_r.noP
    refine qac (InvN [r] (fun j u=>match j with | 0=>u = .agg (pc (fun _=>0) (fun _=>0)) | 2=>u = .bool false | _=>True) (fun _=>none) (fun _=>none) [(tk (none) r 49 (some 1) (fun u=>u = .agg (pc (fun _=>0) (fun _=>0))) (fun u=>u = .agg (pc (fun _=>0) (fun _=>0))))] w7) quq [(38,0),(3,2)] 47 rfl (by kernel_rfl) (InvN.of (Inv.start0 hok (by
      simp only [zD,zE,zF,zG,zH]
      exact fun _=>R_r))) ⟨?_,?_,?_,trivial⟩ ?_
    ·exact qay rfl rfl rfl rfl fun L v w D N I=>qct rfl ⟨rfl,Ext.refl _⟩
    ·exact qfq 0 rfl rfl rfl rfl rfl rfl rfl (fun _ h=>noP_ h) hok fun L v w D I cs hR ho=>st_P hR (by rw [qbz ho];exact qa1 _ _) _ _ rfl rfl (I.inv.val 0 (D 0 rfl)) fun _ c a b k=>⟨trivial,k,c,a,b⟩
    ·exact qay rfl rfl rfl rfl fun L v w D N I=>⟨rfl,Ext.refl _⟩
    intro L v1 W1 hL hI
    replace R_n1:=R_n1.keep1 hI.inv.keep ne_n1_r
    replace hn5:=hn5.keep hI.inv.keep (by simp [noi_r])
    clear noi_r
    replace R_r:=hI.inv.new 0 rfl (hL 1 (by decide))
    replace lt_n1:=ltk lt_n1 hI.inv.keep.size
    replace lt_r:=ltk lt_r hI.inv.keep.size
    replace hx:=hx.keep1 hI.inv.keep bs_r
    have hs_3_9 : (v1 2) = .bool false:=hI.inv.val 2 (hL 2 (by decide))
    clear hI hL hok L
    simp only [putP,Act.put,zA,zB,zC,hs_3_9]
    go_wp2
    refine bodyPost_ret (qbf rfl _ R_r rfl) rfl ?_
    refine ⟨?_,hx⟩
    rw [hdd.out,qfd]
    rfl
   ·have hn6:=hv7 hok
    have hdl:=hd.out
    rw [if_pos hok] at hdl
    clear hd hok hv7
    obtain ⟨A,n,c,rfl⟩:=hn6.sl
    have hlen:=hn6.len
    rw [if_neg (by rw [ho.out];decide)] at hdl
    replace hdl:=Lib.hid hdl
    clear hlen
    go_upto_region 12 with fail
    have hok : TrsOk [r] w7.heap.size ([(tk (none) r 49 (some 5) (fun u=>u = .agg (pc (fun _=>0) (fun _=>0))) (fun u=>u = .agg (pc (fb (rtF U)) (fb (y)))))] : List Trk):=⟨by simp [tk,R_r.lt],by simp [tk],by simp [tk],by simp [tk]⟩
    have noi_r : NoI w7 r:=R_r.noP
    refine qac (InvN [r] (fun j u=>match j with | 1=>u = .agg (qab (fb (rtF U))) | 3=>u = .agg (qab (fb (y))) | 4=>u = .agg (pc (fb (rtF U)) (fb (y))) | 6=>u = .bool true | _=>True) (fun j=>match j with | 0=>some (rtF U) | 2=>some (y) | _=>none) (fun _=>none) [(tk (none) r 49 (some 5) (fun u=>u = .agg (pc (fun _=>0) (fun _=>0))) (fun u=>u = .agg (pc (fb (rtF U)) (fb (y)))))] w7) qun [(42,0),(43,1),(44,2),(45,3),(46,4),(3,6)] 47 rfl (by kernel_rfl) (InvN.of (Inv.start0 hok (by
      simp only [zD,zE,zF,zG,zH]
      exact fun _=>R_r))) ⟨?_,?_,?_,?_,?_,?_,?_,trivial⟩ ?_
    ·exact qap _ rfl rfl rfl rfl (fun _=>trivial) fun L v w D N I=>⟨hn6.keep I.inv.keep (by simp [noi_r]),Ext.refl _⟩
    ·exact qay rfl rfl rfl rfl fun L v w D N I=>qd5 _ _ rfl rfl (qaf (qey (I.num.n 0 _ (D 0 rfl) rfl)))
    ·exact qap _ rfl rfl rfl rfl (fun _=>trivial) fun L v w D N I=>⟨hn5.keep I.inv.keep (by simp [noi_r]),Ext.refl _⟩
    ·exact qay rfl rfl rfl rfl fun L v w D N I=>qd5 _ _ rfl rfl (qaf (qey (I.num.n 2 _ (D 2 rfl) rfl)))
    ·exact qay rfl rfl rfl rfl fun L v w D N I=>bd_P _ _ rfl (I.inv.val 1 (D 1 rfl)) (I.inv.val 3 (D 3 rfl)) ldK
    ·exact qfq 0 rfl rfl rfl rfl rfl rfl rfl (fun _ h=>noP_ h) hok fun L v w D I cs hR ho=>st_P hR (by rw [qbz ho];exact qa1 _ _) _ _ rfl rfl (I.inv.val 4 (D 4 rfl)) fun _ c a b k=>⟨trivial,k,c,a,b⟩
    ·exact qay rfl rfl rfl rfl fun L v w D N I=>⟨rfl,Ext.refl _⟩
    intro L v1 W1 hL hI
    replace R_n1:=R_n1.keep1 hI.inv.keep ne_n1_r
    replace hn5:=hn5.keep hI.inv.keep (by simp [noi_r])
    replace hn6:=hn6.keep hI.inv.keep (by simp [noi_r])
    clear noi_r
    replace R_r:=hI.inv.new 0 rfl (hL 5 (by decide))
    replace lt_n1:=ltk lt_n1 hI.inv.keep.size
    replace lt_r:=ltk lt_r hI.inv.keep.size
    replace hx:=hx.keep1 hI.inv.keep bs_r
    have hs_3_12 : (v1 6) = .bool true:=hI.inv.val 6 (hL 6 (by decide))
    clear hI hL hok L
    simp only [putP,Act.put,zA,zB,zC,hs_3_12]
    go_wp2
    refine bodyPost_ret (qbf rfl _ R_r rfl) rfl ?_
    refine ⟨?_,hx⟩
    rw [hdl.out,qhl]
    rfl
end Go.Proofs.YtgeihelkkhjjaaaGreatDoor
end
