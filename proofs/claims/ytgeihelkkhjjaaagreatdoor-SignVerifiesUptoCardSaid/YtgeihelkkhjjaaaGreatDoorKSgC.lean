/-
  The package sign: check, the point s times the base point, less k times the key's.
-/
import Derived.Test.YtgeihelkkhjjaaaGreatDoorKSgB
set_option linter.unusedSimpArgs false
set_option linter.unusedVariables false
set_option maxRecDepth 20000
set_option maxHeartbeats 8000000
namespace Go.Proofs.YtgeihelkkhjjaaaGreatDoor
open Go.RowKit Go.Cv Go.Cv.Pr Go.Cv.Grp
def isL (u : Value) (a b : Option P7) : Prop:=∃ cs : List Value,u = .agg cs.toArray∧cs.length = 128∧(∀ P : P7,a = some P→(cs.drop 0).take 64 = pcL (fb P.x) (fb P.y))∧(∀ P : P7,b = some P→(cs.drop 64).take 64 = pcL (fb P.x) (fb P.y))
theorem isL_mk {cs : List Value} (h : cs.length = 128) : isL (.agg cs.toArray) none none:=⟨cs,rfl,h,fun _ h=>(by cases h),fun _ h=>(by cases h)⟩
theorem qne {cs : List Value} {a b : Option P7} (h : isL (.agg cs.toArray) a b) : cs.length = 128∧(∀ P : P7,a = some P→(cs.drop 0).take 64 = pcL (fb P.x) (fb P.y))∧(∀ P : P7,b = some P→(cs.drop 64).take 64 = pcL (fb P.x) (fb P.y)):=by
 obtain ⟨c,h1,h2⟩:=h
 injection h1 with h1
 have:=congrArg Array.toList h1
 simp only at this
 rw [this];exact h2
theorem uL2 : Tryz.prog.underlying 86 = some (.array 2 49):=by kernel_rfl
section
variable {w : World} {o : Oper} {ev : Operand→Value} {R : Value→World→Prop} {n : Nat} {P : P7} {a b : Option P7}
theorem ld_L0 (hR : RV w n 86 (fun u=>isL u (some P) b)) (p : Operand) (ho : o.op = .load 49 p) (hx : ev p = .pointer (some ⟨n,0 * 64,none⟩)) (h : ∀ u,u = .agg (pc (fb P.x) (fb P.y))→R u w) : qak Tryz.prog R ((execOp ev o).run Tryz.prog w):=by
 obtain ⟨cs,h1,h2⟩:=hR
 obtain ⟨fs,hu⟩:=uPt
 have hp:=(qne h2).2.1 P rfl
 exact qa2 _ p ho n 0 hx h1 (pcL (fb P.x) (fb P.y)) (by rw [qa1];exact hp) _ hu rfl (by rw [qa1];exact iPt) (h _ rfl)
theorem ld_L1 (hR : RV w n 86 (fun u=>isL u a (some P))) (p : Operand) (ho : o.op = .load 49 p) (hx : ev p = .pointer (some ⟨n,1 * 64,none⟩)) (h : ∀ u,u = .agg (pc (fb P.x) (fb P.y))→R u w) : qak Tryz.prog R ((execOp ev o).run Tryz.prog w):=by
 obtain ⟨cs,h1,h2⟩:=hR
 obtain ⟨fs,hu⟩:=uPt
 have hp:=(qne h2).2.2 P rfl
 exact qa2 _ p ho n 64 hx h1 (pcL (fb P.x) (fb P.y)) (by rw [qa1];exact hp) _ hu rfl (by rw [qa1];exact iPt) (h _ rfl)
theorem st_L0 {cs : List Value} (hR : Row w n 86 cs) (ht : isL (.agg cs.toArray) a b) (p q : Operand) (ho : o.op = .store 49 p q) (hx : ev p = .pointer (some ⟨n,0 * 64,none⟩)) (hy : ev q = .agg (pc (fb P.x) (fb P.y)))
  (h : ∀ w' cs',Row w' n 86 cs'→isL (.agg (List.toArray cs')) (some P) b→Keep [n] w w'→R undef w') : qak Tryz.prog R ((execOp ev o).run Tryz.prog w):=by
 obtain ⟨hl,h1,h2⟩:=qne ht
 refine qdt _ p q ho n 0 (pc (fb P.x) (fb P.y)) hx hy hR (by rw [qb4];exact iPt) (by rw [qb4];omega) (qkk _ _) fun w' hr hk=>h w' _ hr ?_ hk
 rw [qb4]
 have hp : (pc (fb P.x) (fb P.y)).toList = pcL (fb P.x) (fb P.y):=rfl
 rw [hp]
 refine ⟨_,rfl,by simp [hl,qa1],fun Q hQ=>?_,fun Q hQ=>?_⟩
 ·injection hQ with hQ
  subst hQ
  simp only [List.take_zero,List.nil_append,List.drop_zero]
  rw [List.take_append_of_le_length (by rw [qa1];omega),List.take_of_length_le (by rw [qa1];omega)]
 ·simp only [List.take_zero,List.nil_append,Nat.zero_add]
  rw [List.drop_append_of_le_length (by rw [qa1];omega),List.drop_of_length_le (by rw [qa1];omega),List.nil_append]
  exact h2 Q hQ
theorem st_L1 {cs : List Value} (hR : Row w n 86 cs) (ht : isL (.agg cs.toArray) a b) (p q : Operand) (ho : o.op = .store 49 p q) (hx : ev p = .pointer (some ⟨n,1 * 64,none⟩)) (hy : ev q = .agg (pc (fb P.x) (fb P.y)))
  (h : ∀ w' cs',Row w' n 86 cs'→isL (.agg (List.toArray cs')) a (some P)→Keep [n] w w'→R undef w') : qak Tryz.prog R ((execOp ev o).run Tryz.prog w):=by
 obtain ⟨hl,h1,h2⟩:=qne ht
 refine qdt _ p q ho n 64 (pc (fb P.x) (fb P.y)) hx hy hR (by rw [qb4];exact iPt) (by rw [qb4];omega) (qkk _ _) fun w' hr hk=>h w' _ hr ?_ hk
 rw [qb4]
 have hp : (pc (fb P.x) (fb P.y)).toList = pcL (fb P.x) (fb P.y):=rfl
 rw [hp]
 have h64 : (cs.take 64).length = 64:=by simp [hl]
 refine ⟨_,rfl,by simp [hl,qa1],fun Q hQ=>?_,fun Q hQ=>?_⟩
 ·simp only [List.drop_zero]
  rw [List.append_assoc,List.take_append_of_le_length (by omega),List.take_take]
  have:=h1 Q hQ
  simpa using this
 ·injection hQ with hQ
  subst hQ
  rw [List.append_assoc,List.drop_append_of_le_length (by omega),List.drop_of_length_le (by omega),List.nil_append,List.take_append_of_le_length (by rw [qa1];omega),List.take_of_length_le (by rw [qa1];omega)]
end
theorem neg_pt (P : P7) (w : World) :
  Calls Tryz.prog 57 #[.agg (pc (fb P.x) (fb P.y))] w fun e w'=>e = .returned (.tuple #[.agg (pc (fb P.neg.x) (fb P.neg.y)),.nilIface])∧Ext w w':=by
 have h:=neg_on (on_pt P) w
 rw [qbw,qbw] at h
 exact h
theorem add_pt (P Q : P7) (w : World) :
  Calls Tryz.prog 58 #[.agg (pc (fb P.x) (fb P.y)),.agg (pc (fb Q.x) (fb Q.y))] w fun e w'=>e = .returned (.tuple #[.agg (pc (fb (P.add Q).x) (fb (P.add Q).y)),.nilIface])∧Ext w w' :=
 add_on (qbw _) (qbw _) (qbw _) (qbw _) w
def qsp : List Plan:=[⟨[],[]⟩,⟨[],[]⟩,⟨[],[]⟩,⟨[],[]⟩,⟨[],[]⟩]
def qsq : List Plan:=[⟨[],[]⟩,⟨[0],[(12,0)]⟩,⟨[0,1],[(13,1)]⟩,⟨[0,1,2],[(11,2)]⟩,⟨[0,1,2],[(11,2)]⟩,⟨[],[]⟩,⟨[0,1,2,3,5],[(14,3),(8,5)]⟩,⟨[0,1,2,3,4,5,6],[(15,4)]⟩]
def qsw : List Plan:=[⟨[],[]⟩,⟨[0],[(16,0)]⟩]
def qsx : List Plan:=[⟨[],[]⟩,⟨[],[]⟩,⟨[0],[(18,0)]⟩,⟨[0,1,2],[(19,1)]⟩]
def qsy : List Plan:=[⟨[],[]⟩,⟨[0],[(21,0)]⟩,⟨[0,1],[(22,1)]⟩,⟨[0,1,2],[(20,2)]⟩,⟨[0,1,2],[(20,2)]⟩,⟨[0,1,2,3],[(23,3)]⟩,⟨[0,1,2,3,4,5],[(24,4)]⟩]
def qsz : List Plan:=[⟨[],[]⟩,⟨[0],[(25,0)]⟩]
def qs0 : List Plan:=[⟨[],[]⟩]
def qs1 : List Plan:=[⟨[],[]⟩,⟨[],[]⟩,⟨[0,1],[(30,0),(31,1)]⟩,⟨[0,1,2],[(32,2)]⟩,⟨[0,1,2,3],[(29,3)]⟩,⟨[0,1,2,3],[(29,3)]⟩,⟨[0,1,2,3,4],[]⟩,⟨[0,1,2,3,4,6],[(33,4),(35,6)]⟩,⟨[0,1,2,3,4,5,6,7],[(34,5)]⟩]
def qs2 : List Plan:=[⟨[],[]⟩,⟨[0],[(36,0)]⟩]
def qsr : List Plan:=[⟨[],[]⟩,⟨[],[]⟩,⟨[0,1],[(41,0),(42,1)]⟩,⟨[0,1,2],[(43,2)]⟩,⟨[0,1,2,3],[(40,3)]⟩,⟨[0,1,2,3],[(40,3)]⟩,⟨[0,1,2,3,4],[]⟩,⟨[0,1,2,3,4,6],[(44,4),(46,6)]⟩,⟨[0,1,2,3,4,5,6,7],[(45,5)]⟩]
def qss : List Plan:=[⟨[],[]⟩,⟨[0],[(47,0)]⟩]
def qst : List Plan:=[⟨[],[]⟩,⟨[0],[(52,0)]⟩,⟨[],[]⟩,⟨[2],[(54,2)]⟩,⟨[0,1,2,3],[(53,1),(55,3)]⟩,⟨[0,1,2,3,4],[(56,4)]⟩,⟨[0,1,2,3,4,5],[(51,5)]⟩,⟨[0,1,2,3,4,5],[(51,5)]⟩,⟨[0,1,2,3,4,5,6],[(57,6)]⟩,⟨[0,1,2,3,4,5,6,7,8],[(58,7)]⟩]
def qsu : List Plan:=[⟨[],[]⟩,⟨[0],[(59,0)]⟩]
def qsv : List Plan:=[⟨[],[]⟩,⟨[0],[(63,0)]⟩,⟨[0,1],[(64,1)]⟩,⟨[0,1],[(64,1)]⟩,⟨[0,1,2,3],[(65,2)]⟩,⟨[0,1,2,3,4],[(66,3)]⟩]
theorem qot {f1 f2 f3 : Nat→UInt8} (hd : decX f1 = none) (w : World) :
  Calls Tryz.prog 27 #[.agg (qab f1),.agg (qab f2),.agg (qab f3)] w fun e w'=>e = .returned (.tuple #[.agg (qab fun _=>0),qa8])∧Ext w w':=by
 have hc:=qnt f1
 rw [hd,qgs] at hc
 go_enter Tryz.func27,Tryz.ntmps27
 have hx : Ext w w:=Ext.refl w
 go_upto_region 0 with fail
 have hok : TrsOk [] w.heap.size ([(tk (some 0) 0 22 (none) (fun u=>u = .agg (qab (f1))) (fun _=>True)),(tk (some 1) 0 22 (none) (fun u=>u = .agg (qab (f2))) (fun _=>True)),(tk (some 2) 0 22 (none) (fun u=>u = .agg (qab (f3))) (fun _=>True)),(tk (some 3) 0 22 (none) (sz 32) (fun _=>True))] : List Trk):=⟨by simp [tk],by simp [tk],by simp [tk],by simp [tk]⟩
 refine qac (Inv [] (fun j u=>match j with | 4=>u = .nilIface | _=>True) [(tk (some 0) 0 22 (none) (fun u=>u = .agg (qab (f1))) (fun _=>True)),(tk (some 1) 0 22 (none) (fun u=>u = .agg (qab (f2))) (fun _=>True)),(tk (some 2) 0 22 (none) (fun u=>u = .agg (qab (f3))) (fun _=>True)),(tk (some 3) 0 22 (none) (sz 32) (fun _=>True))] w) qsp [(3,0),(4,1),(5,2),(6,3),(7,4)] 67 rfl (by kernel_rfl) (Inv.start0 hok (by simp)) ⟨?_,?_,?_,?_,?_,trivial⟩ ?_
 ·exact qa7 0 rfl rfl rfl rfl rfl hok fun L v w D I=>qba (qab f1).toList rfl rfl ⟨trivial,rfl,_,rfl,rfl⟩
 ·exact qa7 1 rfl rfl rfl rfl rfl hok fun L v w D I=>qba (qab f2).toList rfl rfl ⟨trivial,rfl,_,rfl,rfl⟩
 ·exact qa7 2 rfl rfl rfl rfl rfl hok fun L v w D I=>qba (qab f3).toList rfl rfl ⟨trivial,rfl,_,rfl,rfl⟩
 ·exact qa7 3 rfl rfl rfl rfl rfl hok fun L v w D I=>al_B rfl fun c h=>⟨trivial,rfl,c,rfl,qa5 c h⟩
 ·exact sV fun L v w D N I=>⟨rfl,Ext.refl _⟩
 intro L v1 W1 hL hI
 obtain ⟨k1,hb_k1,lo_k1,R_k1⟩:=hI.made0 0 rfl (hL 0 (by decide))
 obtain ⟨k2,hb_k2,lo_k2,R_k2⟩:=hI.made0 1 rfl (hL 1 (by decide))
 obtain ⟨k3,hb_k3,lo_k3,R_k3⟩:=hI.made0 2 rfl (hL 2 (by decide))
 obtain ⟨r,hb_r,lo_r,R_r⟩:=hI.made0 3 rfl (hL 3 (by decide))
 have ne_k1_r:=hI.two 0 3 rfl rfl rfl rfl rfl (hL 0 (by decide)) (hL 3 (by decide)) hb_k1 hb_r
 have ne_k2_r:=hI.two 1 3 rfl rfl rfl rfl rfl (hL 1 (by decide)) (hL 3 (by decide)) hb_k2 hb_r
 have ne_k3_r:=hI.two 2 3 rfl rfl rfl rfl rfl (hL 2 (by decide)) (hL 3 (by decide)) hb_k3 hb_r
 have bs_r:=Nat.le_trans hx.size lo_r
 have lt_r:=R_r.lt
 replace hx:=hx.trans hI.keep.to_ext
 have hs_7_0 : (v1 4) = .nilIface:=hI.val 4 (hL 4 (by decide))
 clear hI hL hok L
 simp only [putP,Act.put,zA,zB,zC,hb_k1,hb_k2,hb_k3,hb_r,hs_7_0]
 go_upto_region 1 with fail
 have hok : TrsOk [] W1.heap.size ([(tk (some 5) 0 49 (some 6) (sz 64) (fun u=>u = .agg (pc (fun _=>0) (fun _=>0))))] : List Trk):=⟨by simp [tk],by simp [tk],by simp [tk],by simp [tk]⟩
 refine qac (Inv [] (fun j u=>match j with | 0=>u = .agg (qab (f1)) | 1=>u = .tuple #[.agg (pc (fun _=>0) (fun _=>0)),qa8] | 2=>u = .tuple #[.agg (pc (fun _=>0) (fun _=>0)),qa8] | 3=>u = .agg (pc (fun _=>0) (fun _=>0)) | 4=>u = qa8 | 7=>u = qa8 | _=>True) [(tk (some 5) 0 49 (some 6) (sz 64) (fun u=>u = .agg (pc (fun _=>0) (fun _=>0))))] W1) qsq [(12,0),(13,1),(11,2),(14,3),(15,4),(8,5),(9,7)] 67 rfl (by kernel_rfl) (Inv.start0 hok (by simp)) ⟨?_,?_,?_,?_,?_,?_,?_,?_,trivial⟩ ?_
 ·exact sV fun L v w D N I=>ld_B (R_k1.keep0 I.keep) _ rfl rfl ldK
 ·exact sV fun L v w D N I=>gcDec _ _ rfl rfl (qai (qaf (hc w)) (ar1 (I.val 0 (D 0 rfl))))
 ·exact sV fun L v w D N I=>⟨(I.val 1 (D 1 rfl)),Ext.refl _⟩
 ·exact sV fun L v w D N I=>qa9 _ _ _ rfl (I.val 2 (D 2 rfl)) _ rfl ⟨rfl,Ext.refl _⟩
 ·exact sV fun L v w D N I=>qa9 _ _ _ rfl (I.val 2 (D 2 rfl)) _ rfl ⟨rfl,Ext.refl _⟩
 ·exact qa7 0 rfl rfl rfl rfl rfl hok fun L v w D I=>qj3 rfl fun c h=>⟨trivial,rfl,c,rfl,qa5 c h⟩
 ·exact qcv 0 5 rfl rfl rfl rfl rfl rfl hok fun L v w D I n cs hb hR ho=>st_P hR (qaq ho) _ _ rfl hb (I.val 3 (D 3 rfl)) fun _ c a b k=>⟨trivial,k,c,a,b⟩
 ·exact sV fun L v w D N I=>⟨(I.val 4 (D 4 rfl)),Ext.refl _⟩
 intro L v2 W2 hL hI
 obtain ⟨p,hb_p,lo_p,R_p⟩:=hI.made 0 rfl (hL 5 (by decide)) (hL 6 (by decide))
 have lt_k1:=R_k1.lt
 have lt_k2:=R_k2.lt
 have lt_k3:=R_k3.lt
 replace R_k1:=R_k1.keep0 hI.keep
 replace R_k2:=R_k2.keep0 hI.keep
 replace R_k3:=R_k3.keep0 hI.keep
 replace R_r:=R_r.keep0 hI.keep
 have ne_k1_p:=Nat.ne_of_lt (Nat.lt_of_lt_of_le lt_k1 lo_p)
 have ne_k2_p:=Nat.ne_of_lt (Nat.lt_of_lt_of_le lt_k2 lo_p)
 have ne_k3_p:=Nat.ne_of_lt (Nat.lt_of_lt_of_le lt_k3 lo_p)
 have ne_r_p:=Nat.ne_of_lt (Nat.lt_of_lt_of_le lt_r lo_p)
 replace lt_r:=ltk lt_r hI.keep.size
 have bs_p:=Nat.le_trans hx.size lo_p
 have lt_p:=R_p.lt
 replace hx:=hx.trans hI.keep.to_ext
 have hs_9_1 : (v2 7) = qa8:=hI.val 7 (hL 7 (by decide))
 clear hI hL hok L
 simp only [putP,Act.put,zA,zB,zC,hb_p,hs_9_1]
 go_upto_region 2 with fail
 have hok : TrsOk [] W2.heap.size ([] : List Trk):=⟨by simp [tk],by simp [tk],by simp [tk],by simp [tk]⟩
 refine qac (Inv [] (fun j u=>match j with | 0=>u = qa8 | 1=>u = .bool (true) | _=>True) [] W2) qsw [(16,0),(17,1)] 67 rfl (by kernel_rfl) (Inv.start0 hok (by simp)) ⟨?_,?_,trivial⟩ ?_
 ·exact sV fun L v w D N I=>⟨rfl,Ext.refl _⟩
 ·intro L v w hL hD hC hI
  refine ⟨fun _=>?_,fun hw=>by cases hw⟩
  have h0 : (v 0) = qa8:=hI.val 0 (hD 0 (by decide))
  refine hI.val_step hL (by simp) ?_
  rw [show qaj qsw 1 = [(16,0)] from rfl]
  exact qif _ _ rfl h0 rfl ⟨rfl,Ext.refl _⟩
 intro L v3 W3 hL hI
 replace R_k1:=R_k1.keep0 hI.keep
 replace R_k2:=R_k2.keep0 hI.keep
 replace R_k3:=R_k3.keep0 hI.keep
 replace R_r:=R_r.keep0 hI.keep
 replace R_p:=R_p.keep0 hI.keep
 replace lt_r:=ltk lt_r hI.keep.size
 replace lt_p:=ltk lt_p hI.keep.size
 replace hx:=hx.trans hI.keep.to_ext
 have hs_16_2 : (v3 0) = qa8:=hI.val 0 (hL 0 (by decide))
 have hs_17_2 : (v3 1) = .bool (true):=hI.val 1 (hL 1 (by decide))
 clear hI hL hok L
 simp only [putP,Act.put,zA,zB,zC,hs_16_2,hs_17_2]
 go_upto_region 3 with fail
 have hok : TrsOk [r] W3.heap.size ([(tk (none) r 22 (some 2) (sz 32) (fun u=>u = .agg (qab (fun _=>0))))] : List Trk):=⟨by simp [tk,R_r.lt],by simp [tk],by simp [tk],by simp [tk]⟩
 refine qac (Inv [r] (fun j u=>match j with | 0=>u = .agg (qab (fun _=>0)) | 1=>u = qa8 | 3=>u = qa8 | _=>True) [(tk (none) r 22 (some 2) (sz 32) (fun u=>u = .agg (qab (fun _=>0))))] W3) qsx [(18,0),(19,1),(7,3)] 67 rfl (by kernel_rfl) (Inv.start0 hok (by
   simp only [zD,zE,zF,zG,zH]
   exact fun _=>R_r)) ⟨?_,?_,?_,?_,trivial⟩ ?_
 ·exact sV fun L v w D N I=>bd_B0 rfl ldK
 ·exact sV fun L v w D N I=>⟨rfl,Ext.refl _⟩
 ·exact s_put 0 rfl rfl rfl rfl rfl hok fun L v w D I cs hR ho=>st_B hR (qaq ho) _ _ rfl rfl (I.val 0 (D 0 rfl)) fun _ c a b k=>⟨trivial,k,c,a,b⟩
 ·exact sV fun L v w D N I=>⟨(I.val 1 (D 1 rfl)),Ext.refl _⟩
 intro L v4 W4 hL hI
 replace R_k1:=R_k1.keep1 hI.keep ne_k1_r
 replace R_k2:=R_k2.keep1 hI.keep ne_k2_r
 replace R_k3:=R_k3.keep1 hI.keep ne_k3_r
 replace R_p:=R_p.keep1 hI.keep (Ne.symm ne_r_p)
 replace R_r:=hI.new 0 rfl (hL 2 (by decide))
 replace lt_r:=ltk lt_r hI.keep.size
 replace lt_p:=ltk lt_p hI.keep.size
 replace hx:=hx.keep1 hI.keep bs_r
 have hs_19_3 : (v4 1) = qa8:=hI.val 1 (hL 1 (by decide))
 have hs_7_3 : (v4 3) = qa8:=hI.val 3 (hL 3 (by decide))
 clear hI hL hok L
 simp only [putP,Act.put,zA,zB,zC,hs_19_3,hs_7_3]
 go_wp2
 refine bodyPost_ret (qfc rfl _ R_r rfl) rfl ⟨rfl,hx⟩
theorem qos {f1 f2 f3 : Nat→UInt8} {P : P7} (hd : decX f1 = some P.x) (hy : decY f1 = P.y) (w : World) :
  Calls Tryz.prog 27 #[.agg (qab f1),.agg (qab f2),.agg (qab f3)] w fun e w'=>e = .returned (.tuple #[.agg (qab (encF ((Pt.mul (V f3) B7).add (Pt.mul (V f2) P.neg)).x ((Pt.mul (V f3) B7).add (Pt.mul (V f2) P.neg)).y)),.nilIface])∧Ext w w':=by
 have hc:=qnt f1
 rw [hd,hy,qii] at hc
 go_enter Tryz.func27,Tryz.ntmps27
 have hx : Ext w w:=Ext.refl w
 go_upto_region 0 with fail
 have hok : TrsOk [] w.heap.size ([(tk (some 0) 0 22 (none) (fun u=>u = .agg (qab (f1))) (fun _=>True)),(tk (some 1) 0 22 (none) (fun u=>u = .agg (qab (f2))) (fun _=>True)),(tk (some 2) 0 22 (none) (fun u=>u = .agg (qab (f3))) (fun _=>True)),(tk (some 3) 0 22 (none) (sz 32) (fun _=>True))] : List Trk):=⟨by simp [tk],by simp [tk],by simp [tk],by simp [tk]⟩
 refine qac (Inv [] (fun j u=>match j with | 4=>u = .nilIface | _=>True) [(tk (some 0) 0 22 (none) (fun u=>u = .agg (qab (f1))) (fun _=>True)),(tk (some 1) 0 22 (none) (fun u=>u = .agg (qab (f2))) (fun _=>True)),(tk (some 2) 0 22 (none) (fun u=>u = .agg (qab (f3))) (fun _=>True)),(tk (some 3) 0 22 (none) (sz 32) (fun _=>True))] w) qsp [(3,0),(4,1),(5,2),(6,3),(7,4)] 67 rfl (by kernel_rfl) (Inv.start0 hok (by simp)) ⟨?_,?_,?_,?_,?_,trivial⟩ ?_
 ·exact qa7 0 rfl rfl rfl rfl rfl hok fun L v w D I=>qba (qab f1).toList rfl rfl ⟨trivial,rfl,_,rfl,rfl⟩
 ·exact qa7 1 rfl rfl rfl rfl rfl hok fun L v w D I=>qba (qab f2).toList rfl rfl ⟨trivial,rfl,_,rfl,rfl⟩
 ·exact qa7 2 rfl rfl rfl rfl rfl hok fun L v w D I=>qba (qab f3).toList rfl rfl ⟨trivial,rfl,_,rfl,rfl⟩
 ·exact qa7 3 rfl rfl rfl rfl rfl hok fun L v w D I=>al_B rfl fun c h=>⟨trivial,rfl,c,rfl,qa5 c h⟩
 ·exact sV fun L v w D N I=>⟨rfl,Ext.refl _⟩
 intro L v1 W1 hL hI
 obtain ⟨k1,hb_k1,lo_k1,R_k1⟩:=hI.made0 0 rfl (hL 0 (by decide))
 obtain ⟨k2,hb_k2,lo_k2,R_k2⟩:=hI.made0 1 rfl (hL 1 (by decide))
 obtain ⟨k3,hb_k3,lo_k3,R_k3⟩:=hI.made0 2 rfl (hL 2 (by decide))
 obtain ⟨r,hb_r,lo_r,R_r⟩:=hI.made0 3 rfl (hL 3 (by decide))
 have ne_k1_r:=hI.two 0 3 rfl rfl rfl rfl rfl (hL 0 (by decide)) (hL 3 (by decide)) hb_k1 hb_r
 have ne_k2_r:=hI.two 1 3 rfl rfl rfl rfl rfl (hL 1 (by decide)) (hL 3 (by decide)) hb_k2 hb_r
 have ne_k3_r:=hI.two 2 3 rfl rfl rfl rfl rfl (hL 2 (by decide)) (hL 3 (by decide)) hb_k3 hb_r
 have bs_r:=Nat.le_trans hx.size lo_r
 have lt_r:=R_r.lt
 replace hx:=hx.trans hI.keep.to_ext
 have hs_7_0 : (v1 4) = .nilIface:=hI.val 4 (hL 4 (by decide))
 clear hI hL hok L
 simp only [putP,Act.put,zA,zB,zC,hb_k1,hb_k2,hb_k3,hb_r,hs_7_0]
 go_upto_region 1 with fail
 have hok : TrsOk [] W1.heap.size ([(tk (some 5) 0 49 (some 6) (sz 64) (fun u=>u = .agg (pc (fb (P).x) (fb (P).y))))] : List Trk):=⟨by simp [tk],by simp [tk],by simp [tk],by simp [tk]⟩
 refine qac (Inv [] (fun j u=>match j with | 0=>u = .agg (qab (f1)) | 1=>u = .tuple #[.agg (pc (fb (P).x) (fb (P).y)),.nilIface] | 2=>u = .tuple #[.agg (pc (fb (P).x) (fb (P).y)),.nilIface] | 3=>u = .agg (pc (fb (P).x) (fb (P).y)) | 4=>u = .nilIface | 7=>u = .nilIface | _=>True) [(tk (some 5) 0 49 (some 6) (sz 64) (fun u=>u = .agg (pc (fb (P).x) (fb (P).y))))] W1) qsq [(12,0),(13,1),(11,2),(14,3),(15,4),(8,5),(9,7)] 67 rfl (by kernel_rfl) (Inv.start0 hok (by simp)) ⟨?_,?_,?_,?_,?_,?_,?_,?_,trivial⟩ ?_
 ·exact sV fun L v w D N I=>ld_B (R_k1.keep0 I.keep) _ rfl rfl ldK
 ·exact sV fun L v w D N I=>gcDec _ _ rfl rfl (qai (qaf (hc w)) (ar1 (I.val 0 (D 0 rfl))))
 ·exact sV fun L v w D N I=>⟨(I.val 1 (D 1 rfl)),Ext.refl _⟩
 ·exact sV fun L v w D N I=>qa9 _ _ _ rfl (I.val 2 (D 2 rfl)) _ rfl ⟨rfl,Ext.refl _⟩
 ·exact sV fun L v w D N I=>qa9 _ _ _ rfl (I.val 2 (D 2 rfl)) _ rfl ⟨rfl,Ext.refl _⟩
 ·exact qa7 0 rfl rfl rfl rfl rfl hok fun L v w D I=>qj3 rfl fun c h=>⟨trivial,rfl,c,rfl,qa5 c h⟩
 ·exact qcv 0 5 rfl rfl rfl rfl rfl rfl hok fun L v w D I n cs hb hR ho=>st_P hR (qaq ho) _ _ rfl hb (I.val 3 (D 3 rfl)) fun _ c a b k=>⟨trivial,k,c,a,b⟩
 ·exact sV fun L v w D N I=>⟨(I.val 4 (D 4 rfl)),Ext.refl _⟩
 intro L v2 W2 hL hI
 obtain ⟨p,hb_p,lo_p,R_p⟩:=hI.made 0 rfl (hL 5 (by decide)) (hL 6 (by decide))
 have lt_k1:=R_k1.lt
 have lt_k2:=R_k2.lt
 have lt_k3:=R_k3.lt
 replace R_k1:=R_k1.keep0 hI.keep
 replace R_k2:=R_k2.keep0 hI.keep
 replace R_k3:=R_k3.keep0 hI.keep
 replace R_r:=R_r.keep0 hI.keep
 have ne_k1_p:=Nat.ne_of_lt (Nat.lt_of_lt_of_le lt_k1 lo_p)
 have ne_k2_p:=Nat.ne_of_lt (Nat.lt_of_lt_of_le lt_k2 lo_p)
 have ne_k3_p:=Nat.ne_of_lt (Nat.lt_of_lt_of_le lt_k3 lo_p)
 have ne_r_p:=Nat.ne_of_lt (Nat.lt_of_lt_of_le lt_r lo_p)
 replace lt_r:=ltk lt_r hI.keep.size
 have bs_p:=Nat.le_trans hx.size lo_p
 have lt_p:=R_p.lt
 replace hx:=hx.trans hI.keep.to_ext
 have hs_9_1 : (v2 7) = .nilIface:=hI.val 7 (hL 7 (by decide))
 clear hI hL hok L
 simp only [putP,Act.put,zA,zB,zC,hb_p,hs_9_1]
 go_upto_region 2 with fail
 have hok : TrsOk [] W2.heap.size ([] : List Trk):=⟨by simp [tk],by simp [tk],by simp [tk],by simp [tk]⟩
 refine qac (Inv [] (fun j u=>match j with | 0=>u = .nilIface | 1=>u = .bool (false) | _=>True) [] W2) qsw [(16,0),(17,1)] 67 rfl (by kernel_rfl) (Inv.start0 hok (by simp)) ⟨?_,?_,trivial⟩ ?_
 ·exact sV fun L v w D N I=>⟨rfl,Ext.refl _⟩
 ·intro L v w hL hD hC hI
  refine ⟨fun _=>?_,fun hw=>by cases hw⟩
  have h0 : (v 0) = .nilIface:=hI.val 0 (hD 0 (by decide))
  refine hI.val_step hL (by simp) ?_
  rw [show qaj qsw 1 = [(16,0)] from rfl]
  exact qcf _ _ rfl h0 rfl ⟨rfl,Ext.refl _⟩
 intro L v3 W3 hL hI
 replace R_k1:=R_k1.keep0 hI.keep
 replace R_k2:=R_k2.keep0 hI.keep
 replace R_k3:=R_k3.keep0 hI.keep
 replace R_r:=R_r.keep0 hI.keep
 replace R_p:=R_p.keep0 hI.keep
 replace lt_r:=ltk lt_r hI.keep.size
 replace lt_p:=ltk lt_p hI.keep.size
 replace hx:=hx.trans hI.keep.to_ext
 have hs_16_2 : (v3 0) = .nilIface:=hI.val 0 (hL 0 (by decide))
 have hs_17_2 : (v3 1) = .bool (false):=hI.val 1 (hL 1 (by decide))
 clear hI hL hok L
 simp only [putP,Act.put,zA,zB,zC,hs_16_2,hs_17_2]
 go_upto_region 4 with fail
 have hok : TrsOk [p] W3.heap.size ([(tk (none) p 49 (some 5) (fun u=>u = .agg (pc (fb (P).x) (fb (P).y))) (fun u=>u = .agg (pc (fb ((P).neg).x) (fb ((P).neg).y))))] : List Trk):=⟨by simp [tk,R_p.lt],by simp [tk],by simp [tk],by simp [tk]⟩
 refine qac (Inv [p] (fun j u=>match j with | 0=>u = .agg (pc (fb (P).x) (fb (P).y)) | 1=>u = .tuple #[.agg (pc (fb ((P).neg).x) (fb ((P).neg).y)),.nilIface] | 2=>u = .tuple #[.agg (pc (fb ((P).neg).x) (fb ((P).neg).y)),.nilIface] | 3=>u = .agg (pc (fb ((P).neg).x) (fb ((P).neg).y)) | 4=>u = .nilIface | 6=>u = .nilIface | _=>True) [(tk (none) p 49 (some 5) (fun u=>u = .agg (pc (fb (P).x) (fb (P).y))) (fun u=>u = .agg (pc (fb ((P).neg).x) (fb ((P).neg).y))))] W3) qsy [(21,0),(22,1),(20,2),(23,3),(24,4),(9,6)] 67 rfl (by kernel_rfl) (Inv.start0 hok (by
   simp only [zD,zE,zF,zG,zH]
   exact fun _=>R_p)) ⟨?_,?_,?_,?_,?_,?_,?_,trivial⟩ ?_
 ·exact sV fun L v w D N I=>ld_P (I.old 0 rfl (N 5 rfl)) _ rfl rfl ldK
 ·exact sV fun L v w D N I=>gcNeg _ _ rfl rfl (qai (qaf (neg_pt (P) w)) (ar1 (I.val 0 (D 0 rfl))))
 ·exact sV fun L v w D N I=>⟨(I.val 1 (D 1 rfl)),Ext.refl _⟩
 ·exact sV fun L v w D N I=>qa9 _ _ _ rfl (I.val 2 (D 2 rfl)) _ rfl ⟨rfl,Ext.refl _⟩
 ·exact sV fun L v w D N I=>qa9 _ _ _ rfl (I.val 2 (D 2 rfl)) _ rfl ⟨rfl,Ext.refl _⟩
 ·exact s_put 0 rfl rfl rfl rfl rfl hok fun L v w D I cs hR ho=>st_P hR (by rw [qbz ho];exact qa1 _ _) _ _ rfl rfl (I.val 3 (D 3 rfl)) fun _ c a b k=>⟨trivial,k,c,a,b⟩
 ·exact sV fun L v w D N I=>⟨(I.val 4 (D 4 rfl)),Ext.refl _⟩
 intro L v4 W4 hL hI
 replace R_k1:=R_k1.keep1 hI.keep ne_k1_p
 replace R_k2:=R_k2.keep1 hI.keep ne_k2_p
 replace R_k3:=R_k3.keep1 hI.keep ne_k3_p
 replace R_r:=R_r.keep1 hI.keep ne_r_p
 replace R_p:=hI.new 0 rfl (hL 5 (by decide))
 replace lt_r:=ltk lt_r hI.keep.size
 replace lt_p:=ltk lt_p hI.keep.size
 replace hx:=hx.keep1 hI.keep bs_p
 have hs_9_4 : (v4 6) = .nilIface:=hI.val 6 (hL 6 (by decide))
 clear hI hL hok L
 simp only [putP,Act.put,zA,zB,zC,hs_9_4]
 go_upto_region 5 with fail
 have hok : TrsOk [] W4.heap.size ([] : List Trk):=⟨by simp [tk],by simp [tk],by simp [tk],by simp [tk]⟩
 refine qac (Inv [] (fun j u=>match j with | 0=>u = .nilIface | 1=>u = .bool (false) | _=>True) [] W4) qsz [(25,0),(26,1)] 67 rfl (by kernel_rfl) (Inv.start0 hok (by simp)) ⟨?_,?_,trivial⟩ ?_
 ·exact sV fun L v w D N I=>⟨rfl,Ext.refl _⟩
 ·intro L v w hL hD hC hI
  refine ⟨fun _=>?_,fun hw=>by cases hw⟩
  have h0 : (v 0) = .nilIface:=hI.val 0 (hD 0 (by decide))
  refine hI.val_step hL (by simp) ?_
  rw [show qaj qsz 1 = [(25,0)] from rfl]
  exact qcf _ _ rfl h0 rfl ⟨rfl,Ext.refl _⟩
 intro L v5 W5 hL hI
 replace R_k1:=R_k1.keep0 hI.keep
 replace R_k2:=R_k2.keep0 hI.keep
 replace R_k3:=R_k3.keep0 hI.keep
 replace R_r:=R_r.keep0 hI.keep
 replace R_p:=R_p.keep0 hI.keep
 replace lt_r:=ltk lt_r hI.keep.size
 replace lt_p:=ltk lt_p hI.keep.size
 replace hx:=hx.trans hI.keep.to_ext
 have hs_25_5 : (v5 0) = .nilIface:=hI.val 0 (hL 0 (by decide))
 have hs_26_5 : (v5 1) = .bool (false):=hI.val 1 (hL 1 (by decide))
 clear hI hL hok L
 simp only [putP,Act.put,zA,zB,zC,hs_25_5,hs_26_5]
 go_upto_region 7 with fail
 have hok : TrsOk [] W5.heap.size ([(tk (some 0) 0 86 (none) (fun u=>isL u none none) (fun _=>True))] : List Trk):=⟨by simp [tk],by simp [tk],by simp [tk],by simp [tk]⟩
 refine qac (Inv [] (fun _ _=>True) [(tk (some 0) 0 86 (none) (fun u=>isL u none none) (fun _=>True))] W5) qs0 [(10,0)] 67 rfl (by kernel_rfl) (Inv.start0 hok (by simp)) ⟨?_,trivial⟩ ?_
 ·intro L v w hL hD hC hI
  refine ⟨fun _=>?_,fun hw=>by cases hw⟩
  refine Inv.alloc_step hok hI hL (tk (some 0) 0 86 (none) (fun u=>isL u none none) (fun _=>True)) (by simp) rfl (by simp) (by intro s hs;cases hs) ?_
  rw [show qaj qs0 0 = [] from rfl]
  go_simp
  first | exact ⟨rfl,_,rfl,isL_mk rfl⟩ | exact ⟨trivial,rfl,_,rfl,isL_mk rfl⟩
 intro L v6 W6 hL hI
 obtain ⟨l,hb_l,lo_l,R_l⟩:=hI.made0 0 rfl (hL 0 (by decide))
 have lt_k1:=R_k1.lt
 have lt_k2:=R_k2.lt
 have lt_k3:=R_k3.lt
 replace R_k1:=R_k1.keep0 hI.keep
 replace R_k2:=R_k2.keep0 hI.keep
 replace R_k3:=R_k3.keep0 hI.keep
 replace R_r:=R_r.keep0 hI.keep
 replace R_p:=R_p.keep0 hI.keep
 have ne_k1_l:=Nat.ne_of_lt (Nat.lt_of_lt_of_le lt_k1 lo_l)
 have ne_k2_l:=Nat.ne_of_lt (Nat.lt_of_lt_of_le lt_k2 lo_l)
 have ne_k3_l:=Nat.ne_of_lt (Nat.lt_of_lt_of_le lt_k3 lo_l)
 have ne_r_l:=Nat.ne_of_lt (Nat.lt_of_lt_of_le lt_r lo_l)
 have ne_p_l:=Nat.ne_of_lt (Nat.lt_of_lt_of_le lt_p lo_l)
 replace lt_r:=ltk lt_r hI.keep.size
 replace lt_p:=ltk lt_p hI.keep.size
 have bs_l:=Nat.le_trans hx.size lo_l
 have lt_l:=R_l.lt
 replace hx:=hx.trans hI.keep.to_ext
 clear hI hL hok L
 simp only [putP,Act.put,zA,zB,zC,hb_l]
 go_upto_region 8 with fail
 have hok : TrsOk [l] W6.heap.size ([(tk (none) l 86 (some 7) (fun u=>isL u none none) (fun u=>isL u (some (Pt.mul (V (f3)) (B7))) none))] : List Trk):=⟨by simp [tk,R_l.lt],by simp [tk],by simp [tk],by simp [tk]⟩
 refine qag (Inv [l] (fun j u=>match j with | 0=>u = .agg (qab (f3)) | 1=>u = .agg (pc (fb (B7).x) (fb (B7).y)) | 2=>u = .tuple #[.agg (pc (fb (Pt.mul (V (f3)) (B7)).x) (fb (Pt.mul (V (f3)) (B7)).y)),.nilIface] | 3=>u = .tuple #[.agg (pc (fb (Pt.mul (V (f3)) (B7)).x) (fb (Pt.mul (V (f3)) (B7)).y)),.nilIface] | 4=>u = .agg (pc (fb (Pt.mul (V (f3)) (B7)).x) (fb (Pt.mul (V (f3)) (B7)).y)) | 5=>u = .nilIface | 6=>u = .pointer (some ⟨l,0 * 64,none⟩) | 8=>u = .nilIface | _=>True) [(tk (none) l 86 (some 7) (fun u=>isL u none none) (fun u=>isL u (some (Pt.mul (V (f3)) (B7))) none))] W6) qs1 [(30,0),(31,1),(32,2),(29,3),(33,4),(34,5),(35,6),(9,8)] 67 (by kernel_rfl) rfl (by kernel_rfl) (Inv.start hok (by
   simp only [zD,zE,zF,zG,zH]
   exact fun _=>R_l)) ⟨?_,?_,?_,?_,?_,?_,?_,?_,?_,trivial⟩ ?_
 ·exact sV fun L v w D N I=>ld_B (R_k3.keep1 I.keep ne_k3_l) _ rfl rfl ldK
 ·exact sV fun L v w D N I=>gcBase _ _ rfl rfl (qaf (qnv w))
 ·exact sV fun L v w D N I=>qmd _ _ rfl rfl (qai (qaf (qjc (f3) (B7) w)) (ar2 (I.val 0 (D 0 rfl)) (I.val 1 (D 1 rfl))))
 ·exact sV fun L v w D N I=>⟨(I.val 2 (D 2 rfl)),Ext.refl _⟩
 ·exact sV fun L v w D N I=>qa9 _ _ _ rfl (I.val 3 (D 3 rfl)) _ rfl ⟨rfl,Ext.refl _⟩
 ·exact sV fun L v w D N I=>qa9 _ _ _ rfl (I.val 3 (D 3 rfl)) _ rfl ⟨rfl,Ext.refl _⟩
 ·intro L v w hL hD hC hI
  refine ⟨fun _=>?_,fun hw=>by cases hw⟩
  refine hI.val_step hL (by simp) ?_
  rw [show qaj qs1 6 = [] from rfl]
  exact qa3 _ _ _ _ rfl l 0 64 2 .i64 rfl rfl uL2 (by decide) iPt ⟨rfl,Ext.refl _⟩
 ·intro L v w hL hD hC hI
  refine ⟨fun _=>?_,fun hw=>by cases hw⟩
  have h4 : (v 4) = .agg (pc (fb (Pt.mul (V (f3)) (B7)).x) (fb (Pt.mul (V (f3)) (B7)).y)):=hI.val 4 (hD 4 (by decide))
  have h6 : (v 6) = .pointer (some ⟨l,0 * 64,none⟩):=hI.val 6 (hD 6 (by decide))
  refine Inv.store_step hok hI hL (tk (none) l 86 (some 7) (fun u=>isL u none none) (fun u=>isL u (some (Pt.mul (V (f3)) (B7))) none)) (by simp) rfl (by simp) (by intro k hk;cases hk) ?_
  intro n cs hb hR hold
  change n = l at hb
  subst hb
  rw [show qaj qs1 7 = [(33,4),(35,6)] from rfl]
  exact st_L0 hR hold _ _ rfl h6 h4 fun w' cs' hr he hk=>⟨trivial,hk,cs',hr,he⟩
 ·exact sV fun L v w D N I=>⟨(I.val 5 (D 5 rfl)),Ext.refl _⟩
 intro L v7 W7 hL hI
 replace R_k1:=R_k1.keep1 hI.keep ne_k1_l
 replace R_k2:=R_k2.keep1 hI.keep ne_k2_l
 replace R_k3:=R_k3.keep1 hI.keep ne_k3_l
 replace R_r:=R_r.keep1 hI.keep ne_r_l
 replace R_p:=R_p.keep1 hI.keep ne_p_l
 replace R_l:=hI.new 0 rfl (hL 7 (by decide))
 replace lt_r:=ltk lt_r hI.keep.size
 replace lt_p:=ltk lt_p hI.keep.size
 replace lt_l:=ltk lt_l hI.keep.size
 replace hx:=hx.keep1 hI.keep bs_l
 have hs_9_8 : (v7 8) = .nilIface:=hI.val 8 (hL 8 (by decide))
 clear hI hL hok L
 simp only [putP,Act.put,zA,zB,zC,hs_9_8]
 go_upto_region 9 with fail
 have hok : TrsOk [] W7.heap.size ([] : List Trk):=⟨by simp [tk],by simp [tk],by simp [tk],by simp [tk]⟩
 refine qac (Inv [] (fun j u=>match j with | 0=>u = .nilIface | 1=>u = .bool (false) | _=>True) [] W7) qs2 [(36,0),(37,1)] 67 rfl (by kernel_rfl) (Inv.start0 hok (by simp)) ⟨?_,?_,trivial⟩ ?_
 ·exact sV fun L v w D N I=>⟨rfl,Ext.refl _⟩
 ·intro L v w hL hD hC hI
  refine ⟨fun _=>?_,fun hw=>by cases hw⟩
  have h0 : (v 0) = .nilIface:=hI.val 0 (hD 0 (by decide))
  refine hI.val_step hL (by simp) ?_
  rw [show qaj qs2 1 = [(36,0)] from rfl]
  exact qcf _ _ rfl h0 rfl ⟨rfl,Ext.refl _⟩
 intro L v8 W8 hL hI
 replace R_k1:=R_k1.keep0 hI.keep
 replace R_k2:=R_k2.keep0 hI.keep
 replace R_k3:=R_k3.keep0 hI.keep
 replace R_r:=R_r.keep0 hI.keep
 replace R_p:=R_p.keep0 hI.keep
 replace R_l:=R_l.keep0 hI.keep
 replace lt_r:=ltk lt_r hI.keep.size
 replace lt_p:=ltk lt_p hI.keep.size
 replace lt_l:=ltk lt_l hI.keep.size
 replace hx:=hx.trans hI.keep.to_ext
 have hs_36_9 : (v8 0) = .nilIface:=hI.val 0 (hL 0 (by decide))
 have hs_37_9 : (v8 1) = .bool (false):=hI.val 1 (hL 1 (by decide))
 clear hI hL hok L
 simp only [putP,Act.put,zA,zB,zC,hs_36_9,hs_37_9]
 go_upto_region 11 with fail
 have hok : TrsOk [l] W8.heap.size ([(tk (none) l 86 (some 7) (fun u=>isL u (some (Pt.mul (V (f3)) (B7))) none) (fun u=>isL u (some (Pt.mul (V (f3)) (B7))) (some (Pt.mul (V (f2)) ((P).neg)))))] : List Trk):=⟨by simp [tk,R_l.lt],by simp [tk],by simp [tk],by simp [tk]⟩
 refine qac (Inv [l] (fun j u=>match j with | 0=>u = .agg (qab (f2)) | 1=>u = .agg (pc (fb ((P).neg).x) (fb ((P).neg).y)) | 2=>u = .tuple #[.agg (pc (fb (Pt.mul (V (f2)) ((P).neg)).x) (fb (Pt.mul (V (f2)) ((P).neg)).y)),.nilIface] | 3=>u = .tuple #[.agg (pc (fb (Pt.mul (V (f2)) ((P).neg)).x) (fb (Pt.mul (V (f2)) ((P).neg)).y)),.nilIface] | 4=>u = .agg (pc (fb (Pt.mul (V (f2)) ((P).neg)).x) (fb (Pt.mul (V (f2)) ((P).neg)).y)) | 5=>u = .nilIface | 6=>u = .pointer (some ⟨l,1 * 64,none⟩) | 8=>u = .nilIface | _=>True) [(tk (none) l 86 (some 7) (fun u=>isL u (some (Pt.mul (V (f3)) (B7))) none) (fun u=>isL u (some (Pt.mul (V (f3)) (B7))) (some (Pt.mul (V (f2)) ((P).neg)))))] W8) qsr [(41,0),(42,1),(43,2),(40,3),(44,4),(45,5),(46,6),(9,8)] 67 rfl (by kernel_rfl) (Inv.start0 hok (by
   simp only [zD,zE,zF,zG,zH]
   exact fun _=>R_l)) ⟨?_,?_,?_,?_,?_,?_,?_,?_,?_,trivial⟩ ?_
 ·exact sV fun L v w D N I=>ld_B (R_k2.keep1 I.keep ne_k2_l) _ rfl rfl ldK
 ·exact sV fun L v w D N I=>ld_P (R_p.keep1 I.keep ne_p_l) _ rfl rfl ldK
 ·exact sV fun L v w D N I=>qmd _ _ rfl rfl (qai (qaf (qjc (f2) ((P).neg) w)) (ar2 (I.val 0 (D 0 rfl)) (I.val 1 (D 1 rfl))))
 ·exact sV fun L v w D N I=>⟨(I.val 2 (D 2 rfl)),Ext.refl _⟩
 ·exact sV fun L v w D N I=>qa9 _ _ _ rfl (I.val 3 (D 3 rfl)) _ rfl ⟨rfl,Ext.refl _⟩
 ·exact sV fun L v w D N I=>qa9 _ _ _ rfl (I.val 3 (D 3 rfl)) _ rfl ⟨rfl,Ext.refl _⟩
 ·intro L v w hL hD hC hI
  refine ⟨fun _=>?_,fun hw=>by cases hw⟩
  refine hI.val_step hL (by simp) ?_
  rw [show qaj qsr 6 = [] from rfl]
  exact qa3 _ _ _ _ rfl l 1 64 2 .i64 rfl rfl uL2 (by decide) iPt ⟨rfl,Ext.refl _⟩
 ·intro L v w hL hD hC hI
  refine ⟨fun _=>?_,fun hw=>by cases hw⟩
  have h4 : (v 4) = .agg (pc (fb (Pt.mul (V (f2)) ((P).neg)).x) (fb (Pt.mul (V (f2)) ((P).neg)).y)):=hI.val 4 (hD 4 (by decide))
  have h6 : (v 6) = .pointer (some ⟨l,1 * 64,none⟩):=hI.val 6 (hD 6 (by decide))
  refine Inv.store_step hok hI hL (tk (none) l 86 (some 7) (fun u=>isL u (some (Pt.mul (V (f3)) (B7))) none) (fun u=>isL u (some (Pt.mul (V (f3)) (B7))) (some (Pt.mul (V (f2)) ((P).neg))))) (by simp) rfl (by simp) (by intro k hk;cases hk) ?_
  intro n cs hb hR hold
  change n = l at hb
  subst hb
  rw [show qaj qsr 7 = [(44,4),(46,6)] from rfl]
  exact st_L1 hR hold _ _ rfl h6 h4 fun w' cs' hr he hk=>⟨trivial,hk,cs',hr,he⟩
 ·exact sV fun L v w D N I=>⟨(I.val 5 (D 5 rfl)),Ext.refl _⟩
 intro L v9 W9 hL hI
 replace R_k1:=R_k1.keep1 hI.keep ne_k1_l
 replace R_k2:=R_k2.keep1 hI.keep ne_k2_l
 replace R_k3:=R_k3.keep1 hI.keep ne_k3_l
 replace R_r:=R_r.keep1 hI.keep ne_r_l
 replace R_p:=R_p.keep1 hI.keep ne_p_l
 replace R_l:=hI.new 0 rfl (hL 7 (by decide))
 replace lt_r:=ltk lt_r hI.keep.size
 replace lt_p:=ltk lt_p hI.keep.size
 replace lt_l:=ltk lt_l hI.keep.size
 replace hx:=hx.keep1 hI.keep bs_l
 have hs_9_11 : (v9 8) = .nilIface:=hI.val 8 (hL 8 (by decide))
 clear hI hL hok L
 simp only [putP,Act.put,zA,zB,zC,hs_9_11]
 go_upto_region 12 with fail
 have hok : TrsOk [] W9.heap.size ([] : List Trk):=⟨by simp [tk],by simp [tk],by simp [tk],by simp [tk]⟩
 refine qac (Inv [] (fun j u=>match j with | 0=>u = .nilIface | 1=>u = .bool (false) | _=>True) [] W9) qss [(47,0),(48,1)] 67 rfl (by kernel_rfl) (Inv.start0 hok (by simp)) ⟨?_,?_,trivial⟩ ?_
 ·exact sV fun L v w D N I=>⟨rfl,Ext.refl _⟩
 ·intro L v w hL hD hC hI
  refine ⟨fun _=>?_,fun hw=>by cases hw⟩
  have h0 : (v 0) = .nilIface:=hI.val 0 (hD 0 (by decide))
  refine hI.val_step hL (by simp) ?_
  rw [show qaj qss 1 = [(47,0)] from rfl]
  exact qcf _ _ rfl h0 rfl ⟨rfl,Ext.refl _⟩
 intro L v10 W10 hL hI
 replace R_k1:=R_k1.keep0 hI.keep
 replace R_k2:=R_k2.keep0 hI.keep
 replace R_k3:=R_k3.keep0 hI.keep
 replace R_r:=R_r.keep0 hI.keep
 replace R_p:=R_p.keep0 hI.keep
 replace R_l:=R_l.keep0 hI.keep
 replace lt_r:=ltk lt_r hI.keep.size
 replace lt_p:=ltk lt_p hI.keep.size
 replace lt_l:=ltk lt_l hI.keep.size
 replace hx:=hx.trans hI.keep.to_ext
 have hs_47_12 : (v10 0) = .nilIface:=hI.val 0 (hL 0 (by decide))
 have hs_48_12 : (v10 1) = .bool (false):=hI.val 1 (hL 1 (by decide))
 clear hI hL hok L
 simp only [putP,Act.put,zA,zB,zC,hs_47_12,hs_48_12]
 go_upto_region 14 with fail
 have hok : TrsOk [p] W10.heap.size ([(tk (none) p 49 (some 8) (fun u=>u = .agg (pc (fb ((P).neg).x) (fb ((P).neg).y))) (fun u=>u = .agg (pc (fb ((Pt.mul (V (f3)) (B7)).add (Pt.mul (V (f2)) ((P).neg))).x) (fb ((Pt.mul (V (f3)) (B7)).add (Pt.mul (V (f2)) ((P).neg))).y))))] : List Trk):=⟨by simp [tk,R_p.lt],by simp [tk],by simp [tk],by simp [tk]⟩
 refine qac (Inv [p] (fun j u=>match j with | 0=>u = .pointer (some ⟨l,0 * 64,none⟩) | 1=>u = .agg (pc (fb (Pt.mul (V (f3)) (B7)).x) (fb (Pt.mul (V (f3)) (B7)).y)) | 2=>u = .pointer (some ⟨l,1 * 64,none⟩) | 3=>u = .agg (pc (fb (Pt.mul (V (f2)) ((P).neg)).x) (fb (Pt.mul (V (f2)) ((P).neg)).y)) | 4=>u = .tuple #[.agg (pc (fb ((Pt.mul (V (f3)) (B7)).add (Pt.mul (V (f2)) ((P).neg))).x) (fb ((Pt.mul (V (f3)) (B7)).add (Pt.mul (V (f2)) ((P).neg))).y)),.nilIface] | 5=>u = .tuple #[.agg (pc (fb ((Pt.mul (V (f3)) (B7)).add (Pt.mul (V (f2)) ((P).neg))).x) (fb ((Pt.mul (V (f3)) (B7)).add (Pt.mul (V (f2)) ((P).neg))).y)),.nilIface] | 6=>u = .agg (pc (fb ((Pt.mul (V (f3)) (B7)).add (Pt.mul (V (f2)) ((P).neg))).x) (fb ((Pt.mul (V (f3)) (B7)).add (Pt.mul (V (f2)) ((P).neg))).y)) | 7=>u = .nilIface | 9=>u = .nilIface | _=>True) [(tk (none) p 49 (some 8) (fun u=>u = .agg (pc (fb ((P).neg).x) (fb ((P).neg).y))) (fun u=>u = .agg (pc (fb ((Pt.mul (V (f3)) (B7)).add (Pt.mul (V (f2)) ((P).neg))).x) (fb ((Pt.mul (V (f3)) (B7)).add (Pt.mul (V (f2)) ((P).neg))).y))))] W10) qst [(52,0),(53,1),(54,2),(55,3),(56,4),(51,5),(57,6),(58,7),(9,9)] 67 rfl (by kernel_rfl) (Inv.start0 hok (by
   simp only [zD,zE,zF,zG,zH]
   exact fun _=>R_p)) ⟨?_,?_,?_,?_,?_,?_,?_,?_,?_,?_,trivial⟩ ?_
 ·intro L v w hL hD hC hI
  refine ⟨fun _=>?_,fun hw=>by cases hw⟩
  refine hI.val_step hL (by simp) ?_
  rw [show qaj qst 0 = [] from rfl]
  exact qa3 _ _ _ _ rfl l 0 64 2 .i64 rfl rfl uL2 (by decide) iPt ⟨rfl,Ext.refl _⟩
 ·intro L v w hL hD hC hI
  refine ⟨fun _=>?_,fun hw=>by cases hw⟩
  have h0 : (v 0) = .pointer (some ⟨l,0 * 64,none⟩):=hI.val 0 (hD 0 (by decide))
  refine hI.val_step hL (by simp) ?_
  rw [show qaj qst 1 = [(52,0)] from rfl]
  exact ld_L0 (R_l.keep hI.keep (by simp [ne_p_l,Ne.symm ne_p_l])) _ rfl h0 fun u hu=>⟨hu,Ext.refl _⟩
 ·intro L v w hL hD hC hI
  refine ⟨fun _=>?_,fun hw=>by cases hw⟩
  refine hI.val_step hL (by simp) ?_
  rw [show qaj qst 2 = [] from rfl]
  exact qa3 _ _ _ _ rfl l 1 64 2 .i64 rfl rfl uL2 (by decide) iPt ⟨rfl,Ext.refl _⟩
 ·intro L v w hL hD hC hI
  refine ⟨fun _=>?_,fun hw=>by cases hw⟩
  have h2 : (v 2) = .pointer (some ⟨l,1 * 64,none⟩):=hI.val 2 (hD 2 (by decide))
  refine hI.val_step hL (by simp) ?_
  rw [show qaj qst 3 = [(54,2)] from rfl]
  exact ld_L1 (R_l.keep hI.keep (by simp [ne_p_l,Ne.symm ne_p_l])) _ rfl h2 fun u hu=>⟨hu,Ext.refl _⟩
 ·exact sV fun L v w D N I=>gcAdd _ _ rfl rfl (qai (qaf (add_pt (Pt.mul (V (f3)) (B7)) (Pt.mul (V (f2)) ((P).neg)) w)) (ar2 (I.val 1 (D 1 rfl)) (I.val 3 (D 3 rfl))))
 ·exact sV fun L v w D N I=>⟨(I.val 4 (D 4 rfl)),Ext.refl _⟩
 ·exact sV fun L v w D N I=>qa9 _ _ _ rfl (I.val 5 (D 5 rfl)) _ rfl ⟨rfl,Ext.refl _⟩
 ·exact sV fun L v w D N I=>qa9 _ _ _ rfl (I.val 5 (D 5 rfl)) _ rfl ⟨rfl,Ext.refl _⟩
 ·exact s_put 0 rfl rfl rfl rfl rfl hok fun L v w D I cs hR ho=>st_P hR (by rw [qbz ho];exact qa1 _ _) _ _ rfl rfl (I.val 6 (D 6 rfl)) fun _ c a b k=>⟨trivial,k,c,a,b⟩
 ·exact sV fun L v w D N I=>⟨(I.val 7 (D 7 rfl)),Ext.refl _⟩
 intro L v11 W11 hL hI
 replace R_k1:=R_k1.keep1 hI.keep ne_k1_p
 replace R_k2:=R_k2.keep1 hI.keep ne_k2_p
 replace R_k3:=R_k3.keep1 hI.keep ne_k3_p
 replace R_r:=R_r.keep1 hI.keep ne_r_p
 replace R_l:=R_l.keep1 hI.keep (Ne.symm ne_p_l)
 replace R_p:=hI.new 0 rfl (hL 8 (by decide))
 replace lt_r:=ltk lt_r hI.keep.size
 replace lt_p:=ltk lt_p hI.keep.size
 replace lt_l:=ltk lt_l hI.keep.size
 replace hx:=hx.keep1 hI.keep bs_p
 have hs_9_14 : (v11 9) = .nilIface:=hI.val 9 (hL 9 (by decide))
 clear hI hL hok L
 simp only [putP,Act.put,zA,zB,zC,hs_9_14]
 go_upto_region 15 with fail
 have hok : TrsOk [] W11.heap.size ([] : List Trk):=⟨by simp [tk],by simp [tk],by simp [tk],by simp [tk]⟩
 refine qac (Inv [] (fun j u=>match j with | 0=>u = .nilIface | 1=>u = .bool (false) | _=>True) [] W11) qsu [(59,0),(60,1)] 67 rfl (by kernel_rfl) (Inv.start0 hok (by simp)) ⟨?_,?_,trivial⟩ ?_
 ·exact sV fun L v w D N I=>⟨rfl,Ext.refl _⟩
 ·intro L v w hL hD hC hI
  refine ⟨fun _=>?_,fun hw=>by cases hw⟩
  have h0 : (v 0) = .nilIface:=hI.val 0 (hD 0 (by decide))
  refine hI.val_step hL (by simp) ?_
  rw [show qaj qsu 1 = [(59,0)] from rfl]
  exact qcf _ _ rfl h0 rfl ⟨rfl,Ext.refl _⟩
 intro L v12 W12 hL hI
 replace R_k1:=R_k1.keep0 hI.keep
 replace R_k2:=R_k2.keep0 hI.keep
 replace R_k3:=R_k3.keep0 hI.keep
 replace R_r:=R_r.keep0 hI.keep
 replace R_p:=R_p.keep0 hI.keep
 replace R_l:=R_l.keep0 hI.keep
 replace lt_r:=ltk lt_r hI.keep.size
 replace lt_p:=ltk lt_p hI.keep.size
 replace lt_l:=ltk lt_l hI.keep.size
 replace hx:=hx.trans hI.keep.to_ext
 have hs_59_15 : (v12 0) = .nilIface:=hI.val 0 (hL 0 (by decide))
 have hs_60_15 : (v12 1) = .bool (false):=hI.val 1 (hL 1 (by decide))
 clear hI hL hok L
 simp only [putP,Act.put,zA,zB,zC,hs_59_15,hs_60_15]
 go_upto_region 17 with fail
 have hok : TrsOk [r] W12.heap.size ([(tk (none) r 22 (some 4) (sz 32) (fun u=>u = .agg (qab (encF ((Pt.mul (V (f3)) (B7)).add (Pt.mul (V (f2)) ((P).neg))).x ((Pt.mul (V (f3)) (B7)).add (Pt.mul (V (f2)) ((P).neg))).y))))] : List Trk):=⟨by simp [tk,R_r.lt],by simp [tk],by simp [tk],by simp [tk]⟩
 refine qac (Inv [r] (fun j u=>match j with | 0=>u = .agg (pc (fb ((Pt.mul (V (f3)) (B7)).add (Pt.mul (V (f2)) ((P).neg))).x) (fb ((Pt.mul (V (f3)) (B7)).add (Pt.mul (V (f2)) ((P).neg))).y)) | 1=>u = .tuple #[.agg (qab (encF ((Pt.mul (V (f3)) (B7)).add (Pt.mul (V (f2)) ((P).neg))).x ((Pt.mul (V (f3)) (B7)).add (Pt.mul (V (f2)) ((P).neg))).y)),.nilIface] | 2=>u = .agg (qab (encF ((Pt.mul (V (f3)) (B7)).add (Pt.mul (V (f2)) ((P).neg))).x ((Pt.mul (V (f3)) (B7)).add (Pt.mul (V (f2)) ((P).neg))).y)) | 3=>u = .nilIface | 5=>u = .nilIface | _=>True) [(tk (none) r 22 (some 4) (sz 32) (fun u=>u = .agg (qab (encF ((Pt.mul (V (f3)) (B7)).add (Pt.mul (V (f2)) ((P).neg))).x ((Pt.mul (V (f3)) (B7)).add (Pt.mul (V (f2)) ((P).neg))).y))))] W12) qsv [(63,0),(64,1),(65,2),(66,3),(7,5)] 67 rfl (by kernel_rfl) (Inv.start0 hok (by
   simp only [zD,zE,zF,zG,zH]
   exact fun _=>R_r)) ⟨?_,?_,?_,?_,?_,?_,trivial⟩ ?_
 ·exact sV fun L v w D N I=>ld_P (R_p.keep1 I.keep (Ne.symm ne_r_p)) _ rfl rfl ldK
 ·exact sV fun L v w D N I=>gcEnc _ _ rfl rfl (qai (qaf (enc_pt ((Pt.mul (V (f3)) (B7)).add (Pt.mul (V (f2)) ((P).neg))) w)) (ar1 (I.val 0 (D 0 rfl))))
 ·exact sV fun L v w D N I=>qa9 _ _ _ rfl (I.val 1 (D 1 rfl)) _ rfl ⟨rfl,Ext.refl _⟩
 ·exact sV fun L v w D N I=>qa9 _ _ _ rfl (I.val 1 (D 1 rfl)) _ rfl ⟨rfl,Ext.refl _⟩
 ·exact s_put 0 rfl rfl rfl rfl rfl hok fun L v w D I cs hR ho=>st_B hR (qaq ho) _ _ rfl rfl (I.val 2 (D 2 rfl)) fun _ c a b k=>⟨trivial,k,c,a,b⟩
 ·exact sV fun L v w D N I=>⟨(I.val 3 (D 3 rfl)),Ext.refl _⟩
 intro L v13 W13 hL hI
 replace R_k1:=R_k1.keep1 hI.keep ne_k1_r
 replace R_k2:=R_k2.keep1 hI.keep ne_k2_r
 replace R_k3:=R_k3.keep1 hI.keep ne_k3_r
 replace R_p:=R_p.keep1 hI.keep (Ne.symm ne_r_p)
 replace R_l:=R_l.keep1 hI.keep (Ne.symm ne_r_l)
 replace R_r:=hI.new 0 rfl (hL 4 (by decide))
 replace lt_r:=ltk lt_r hI.keep.size
 replace lt_p:=ltk lt_p hI.keep.size
 replace lt_l:=ltk lt_l hI.keep.size
 replace hx:=hx.keep1 hI.keep bs_r
 have hs_7_17 : (v13 5) = .nilIface:=hI.val 5 (hL 5 (by decide))
 clear hI hL hok L
 simp only [putP,Act.put,zA,zB,zC,hs_7_17]
 go_wp2
 refine bodyPost_ret (qfc rfl _ R_r rfl) rfl ⟨rfl,hx⟩
end Go.Proofs.YtgeihelkkhjjaaaGreatDoor
