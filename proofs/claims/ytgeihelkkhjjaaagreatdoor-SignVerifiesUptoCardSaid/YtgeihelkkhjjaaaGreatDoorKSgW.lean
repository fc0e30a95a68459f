/-
  The package sign: Public and Sign.
-/
import Derived.Test.YtgeihelkkhjjaaaGreatDoorKSgH
import Derived.Test.YtgeihelkkhjjaaaGreatDoorKSgD
set_option linter.unusedSimpArgs false
set_option linter.unusedVariables false
set_option maxRecDepth 20000
set_option maxHeartbeats 16000000
namespace Go.Proofs.YtgeihelkkhjjaaaGreatDoor
open Go.RowKit Go.Cv Go.Cv.Pr Go.Cv.Grp Go.Cv.Hash
def qux : List Plan:=[⟨[],[]⟩,⟨[],[]⟩]
def quy : List Plan:=[⟨[],[]⟩,⟨[0],[(3,0)]⟩,⟨[0,1],[(4,1)]⟩,⟨[0,1,2],[(5,2)]⟩]
theorem spub_any (f : Nat→UInt8) (w : World) (hT : Tab64 w) :
  Calls Tryz.prog 6 #[.agg (qab f)] w fun e w'=>e = .returned (.agg (qab (sKey (sNum (qbu f)))))∧Ext w w':=by
 have ho : ∀ (w' : World),Ext w w'→Calls Tryz.prog 14 #[.agg (qab f)] w' fun e w2=>e = .returned (.agg (pc (sNum (qbu f)) (lf (qbu f) 32)))∧Ext w' w2:=fun w' hx=>qpe f w' (hT.ext hx)
 generalize sNum (qbu f) = N at *
 generalize lf (qbu f) 32 = M at *
 have hK : ∀ w' : World,Calls Tryz.prog 15 #[.agg (pc N M)] w' fun e w2=>e = .returned (.agg (qab (sKey N)))∧Ext w' w2:=fun w'=>qmu N M w'
 generalize sKey N = K at *
 go_enter Tryz.func6,Tryz.ntmps6
 go_upto_region 0 with fail
 have hx : Ext w w:=Ext.refl w
 have hok : TrsOk [] w.heap.size ([(tk (some 0) 0 22 (none) (fun u=>u = .agg (qab (f))) (fun _=>True)),(tk (some 1) 0 22 (none) (sz 32) (fun _=>True))] : List Trk):=⟨by simp [tk],by simp [tk],by simp [tk],by simp [tk]⟩
 have hE:=hE0 []
 refine qac (InvE [] [] [] (fun _ _=>True) [(tk (some 0) 0 22 (none) (fun u=>u = .agg (qab (f))) (fun _=>True)),(tk (some 1) 0 22 (none) (sz 32) (fun _=>True))] w) qux [(1,0),(2,1)] 6 rfl (by kernel_rfl) (InvE.start0 (Inv.start0 hok (by simp))) ⟨?_,?_,trivial⟩ ?_
 ·exact qb3 0 hE rfl rfl rfl rfl rfl rfl hok fun L v w D I=>qba (qab (f)).toList rfl rfl ⟨trivial,rfl,_,rfl,rfl⟩
 ·exact qb3 1 hE rfl rfl rfl rfl rfl rfl hok fun L v w D I=>al_B rfl fun c h=>⟨trivial,rfl,c,rfl,qa5 c h⟩
 intro L v1 W1 hL hIE
 have hI:=hIE.inv
 obtain ⟨b,hb_b,lo_b,R_b⟩:=hI.made0 0 rfl (hL 0 (by decide))
 obtain ⟨r,hb_r,lo_r,R_r⟩:=hI.made0 1 rfl (hL 1 (by decide))
 have ne_b_r:=hI.two 0 1 rfl rfl rfl rfl rfl (hL 0 (by decide)) (hL 1 (by decide)) hb_b hb_r
 have bs_r:=Nat.le_trans hx.size lo_r
 have lt_r:=R_r.lt
 have hxr:=hI.keep.to_ext
 replace hx:=hx.trans hxr
 clear hI hIE hL hE L hok hxr
 simp only [putP,Act.put,zA,zB,zC,hb_b,hb_r]
 go_upto_region 1 with fail
 have hok : TrsOk [r] W1.heap.size ([(tk (none) r 22 (some 3) (sz 32) (fun u=>u = .agg (qab (K))))] : List Trk):=⟨by simp [tk,R_r.lt],by simp [tk],by simp [tk],by simp [tk]⟩
 have hE : ∀ p ∈ ([] : List (Nat × (Value→World→Prop))),qck [22] p.2:=fun p hp=>by cases hp
 refine qac (InvE [22] [] [r] (fun j u=>match j with | 0=>u = .agg (qab (f)) | 1=>u = .agg (pc N M) | 2=>u = .agg (qab (K)) | _=>True) [(tk (none) r 22 (some 3) (sz 32) (fun u=>u = .agg (qab (K))))] W1) quy [(3,0),(4,1),(5,2)] 6 rfl (by kernel_rfl) (InvE.start0 (Inv.start0 hok (by
   simp only [zD,zE,zF,zG,zH]
   exact fun _=>R_r))) ⟨?_,?_,?_,?_,trivial⟩ ?_
 ·exact eV hE fun L v w D N I=>ld_B (R_b.keep1 I.inv.keep ne_b_r) _ rfl rfl ldK
 ·exact eV hE fun L v w D N I=>gsOf _ _ rfl rfl (qaf (qai (ho w (hx.keep1 I.inv.keep bs_r)) (ar1 (I.inv.val 0 (D 0 rfl)))))
 ·exact eV hE fun L v w D N I=>gKey _ _ rfl rfl (qaf (qai (hK w) (ar1 (I.inv.val 1 (D 1 rfl)))))
 ·exact qhb 0 hE rfl rfl rfl rfl rfl rfl rfl hok fun L v w D I cs hR ho=>st_B hR (qaq ho) _ _ rfl rfl (I.inv.val 2 (D 2 rfl)) fun _ c a b k=>⟨trivial,k,c,a,b⟩
 intro L v2 W2 hL hIE
 have hI:=hIE.inv
 replace R_b:=R_b.keep1 hI.keep ne_b_r
 replace R_r:=hI.new 0 rfl (hL 3 (by decide))
 replace lt_r:=ltk lt_r hI.keep.size
 replace hx:=hx.keep1 hI.keep bs_r
 clear hI hIE hL hE L hok
 simp only [putP,Act.put,zA,zB,zC]
 go_wp2
 refine bodyPost_ret (qcs rfl _ R_r rfl) rfl ⟨rfl,hx⟩
def quz : List Plan:=[⟨[],[]⟩,⟨[],[]⟩]
def qu0 : List Plan:=[⟨[],[]⟩,⟨[0],[(11,0)]⟩,⟨[],[]⟩,⟨[0,1,2],[(12,1),(5,2)]⟩]
def qu1 : List Plan:=[⟨[],[]⟩,⟨[0],[(13,0)]⟩,⟨[],[]⟩,⟨[0,1,2],[(14,1),(6,2)]⟩]
def qu2 : List Plan:=[⟨[],[]⟩,⟨[0],[(15,0)]⟩,⟨[],[]⟩,⟨[2],[(17,2)]⟩,⟨[0,1,2,3],[(16,1),(18,3)]⟩,⟨[],[]⟩,⟨[0,1,2,3,4,5],[(19,4),(7,5)]⟩]
def qu3 : List Plan:=[⟨[],[]⟩,⟨[0],[(20,0)]⟩,⟨[],[]⟩,⟨[0,1,2],[(21,1),(8,2)]⟩]
def qu4 : List Plan:=[⟨[],[]⟩,⟨[],[]⟩,⟨[],[]⟩,⟨[1,2],[(23,1),(24,2)]⟩,⟨[0,1,2,3],[(22,0),(25,3)]⟩,⟨[],[]⟩,⟨[0,1,2,3,4,5],[(26,4),(9,5)]⟩]
def qu5 : List Plan:=[⟨[],[]⟩,⟨[],[]⟩,⟨[1],[(28,1)]⟩,⟨[],[]⟩,⟨[0,1,2,3],[(27,0),(29,2),(30,3)]⟩,⟨[],[]⟩,⟨[0,1,2,3,4,5],[(31,4),(10,5)]⟩]
def qu6 : List Plan:=[⟨[],[]⟩,⟨[],[]⟩,⟨[0,1],[(32,0),(33,1)]⟩,⟨[0,1,2],[(34,2)]⟩,⟨[0,1,2,3],[(35,3)]⟩,⟨[0,1,2,3,4],[(36,4)]⟩]
theorem ssig_any (f : Nat→UInt8) (A : Option Addr) (n c : Nat) (l : List UInt8) (w : World) (hl : l.length = n) (hc : n ≤ c) (hr : Rd w A (l.map bv)) (bnd : n ≤ 4900000) (hT : Tab64 w) :
  Calls Tryz.prog 7 #[.agg (qab f),.slice A n c] w fun e w'=>e = .returned (h64 (sSig (sNum (qbu f)) (lf (qbu f) 32) l))∧Ext w w':=by
 have ho : ∀ (w' : World),Ext w w'→Calls Tryz.prog 14 #[.agg (qab f)] w' fun e w2=>e = .returned (.agg (pc (sNum (qbu f)) (lf (qbu f) 32)))∧Ext w' w2:=fun w' hx=>qpe f w' (hT.ext hx)
 generalize sNum (qbu f) = N at *
 generalize lf (qbu f) 32 = M at *
 have hK : ∀ w' : World,Calls Tryz.prog 15 #[.agg (pc N M)] w' fun e w2=>e = .returned (.agg (qab (sKey N)))∧Ext w' w2:=fun w'=>qmu N M w'
 have hD1 : ∀ (w' : World) (A1 : Option Addr) (g : Nat),Rd w' A1 ((qao M).map bv)→Row w' g 23 [.slice A n c]→Ext w w'→Calls Tryz.prog 16 #[.slice A1 32 32,.slice (some ⟨g,0,none⟩) 1 1] w' fun e w2=>e = .returned (.agg (qab (sDig (qao M ++ l))))∧Ext w' w2:=fun w' A1 g h1 h2 hx=>sdig1 A1 32 32 _ g A n c l w' (qau M) (Nat.le_refl _) h1 h2 hl hc (hr.ext hx) (by omega) (hT.ext hx)
 have hS : sSig N M l = qao (sKey (sDig (qao M ++ l))) ++ qao (nb ((V (sDig (qao (sKey (sDig (qao M ++ l))) ++ (qao (sKey N) ++ l))) * V N + V (sDig (qao M ++ l))) % ordN)):=rfl
 generalize sDig (qao M ++ l) = D1 at *
 have hP : ∀ w' : World,Calls Tryz.prog 17 #[.agg (qab D1)] w' fun e w2=>e = .returned (.agg (qab (sKey D1)))∧Ext w' w2:=fun w'=>qkh D1 w'
 generalize sKey D1 = P1 at *
 generalize sKey N = K at *
 have hD2 : ∀ (w' : World) (A1 A2 : Option Addr) (g : Nat),Rd w' A1 ((qao P1).map bv)→Row w' g 23 [.slice A2 32 32,.slice A n c]→Rd w' A2 ((qao K).map bv)→Ext w w'→Calls Tryz.prog 16 #[.slice A1 32 32,.slice (some ⟨g,0,none⟩) 2 2] w' fun e w2=>e = .returned (.agg (qab (sDig (qao P1 ++ (qao K ++ l)))))∧Ext w' w2:=fun w' A1 A2 g h1 h2 h3 hx=>sdig2 A1 32 32 _ g A2 32 32 _ A n c l w' (qau P1) (Nat.le_refl _) h1 h2 (qau K) (Nat.le_refl _) h3 hl hc (hr.ext hx) (by omega) (hT.ext hx)
 generalize sDig (qao P1 ++ (qao K ++ l)) = D2 at *
 have hM : ∀ w' : World,Calls Tryz.prog 18 #[.agg (qab D2),.agg (qab N),.agg (qab D1)] w' fun e w2=>e = .returned (.agg (qab (nb ((V D2 * V N + V D1) % ordN))))∧Ext w' w2:=fun w'=>qoh D2 N D1 w'
 generalize nb ((V D2 * V N + V D1) % ordN) = S1 at *
 have hfin:=Lib.hid hS
 clear hS
 have hl64 : (qao P1 ++ qao S1).length = 64:=by simp [qau]
 go_enter Tryz.func7,Tryz.ntmps7
 go_upto_region 0 with fail
 have hx : Ext w w:=Ext.refl w
 have hok : TrsOk [] w.heap.size ([(tk (some 0) 0 22 (none) (fun u=>u = .agg (qab (f))) (fun _=>True)),(tk (some 1) 0 26 (none) (sz 64) (fun _=>True))] : List Trk):=⟨by simp [tk],by simp [tk],by simp [tk],by simp [tk]⟩
 have hE:=hE0 []
 refine qac (InvE [] [] [] (fun _ _=>True) [(tk (some 0) 0 22 (none) (fun u=>u = .agg (qab (f))) (fun _=>True)),(tk (some 1) 0 26 (none) (sz 64) (fun _=>True))] w) quz [(2,0),(4,1)] 37 rfl (by kernel_rfl) (InvE.start0 (Inv.start0 hok (by simp))) ⟨?_,?_,trivial⟩ ?_
 ·exact qb3 0 hE rfl rfl rfl rfl rfl rfl hok fun L v w D I=>qba (qab (f)).toList rfl rfl ⟨trivial,rfl,_,rfl,rfl⟩
 ·exact qb3 1 hE rfl rfl rfl rfl rfl rfl hok fun L v w D I=>al_H rfl fun c h=>⟨trivial,rfl,c,rfl,qa5 c h⟩
 intro L v1 W1 hL hIE
 have hI:=hIE.inv
 obtain ⟨b,hb_b,lo_b,R_b⟩:=hI.made0 0 rfl (hL 0 (by decide))
 obtain ⟨r,hb_r,lo_r,R_r⟩:=hI.made0 1 rfl (hL 1 (by decide))
 have ne_b_r:=hI.two 0 1 rfl rfl rfl rfl rfl (hL 0 (by decide)) (hL 1 (by decide)) hb_b hb_r
 have bs_r:=Nat.le_trans hx.size lo_r
 have lt_r:=R_r.lt
 have hxr:=hI.keep.to_ext
 replace hx:=hx.trans hxr
 clear hI hIE hL hE L hok hxr
 simp only [putP,Act.put,zA,zB,zC,hb_b,hb_r]
 go_upto_region 1 with fail
 have hok : TrsOk [] W1.heap.size ([(tk (some 2) 0 35 (some 3) (sz 64) (fun u=>u = .agg (pc (N) (M))))] : List Trk):=⟨by simp [tk],by simp [tk],by simp [tk],by simp [tk]⟩
 have hE:=hE0 [35]
 refine qac (InvE [35] [] [] (fun j u=>match j with | 0=>u = .agg (qab (f)) | 1=>u = .agg (pc N M) | _=>True) [(tk (some 2) 0 35 (some 3) (sz 64) (fun u=>u = .agg (pc (N) (M))))] W1) qu0 [(11,0),(12,1),(5,2)] 37 rfl (by kernel_rfl) (InvE.start0 (Inv.start0 hok (by simp))) ⟨?_,?_,?_,?_,trivial⟩ ?_
 ·exact eV hE fun L v w D N I=>ld_B (R_b.keep0 I.inv.keep) _ rfl rfl ldK
 ·exact eV hE fun L v w D N I=>gsOf _ _ rfl rfl (qaf (qai (ho w (hx.trans I.inv.keep.to_ext)) (ar1 (I.inv.val 0 (D 0 rfl)))))
 ·exact qb3 0 hE rfl rfl rfl rfl rfl rfl hok fun L v w D I=>al_S rfl fun c h=>⟨trivial,rfl,c,rfl,qa5 c h⟩
 ·exact qd2 0 2 hE rfl rfl rfl rfl rfl rfl rfl rfl hok fun L v w D I n cs hb hR ho=>st_S hR (qaq ho) _ _ rfl hb (I.inv.val 1 (D 1 rfl)) fun _ c a b k=>⟨trivial,k,c,a,b⟩
 intro L v2 W2 hL hIE
 have hI:=hIE.inv
 obtain ⟨s,hb_s,lo_s,R_s⟩:=hI.made 0 rfl (hL 2 (by decide)) (hL 3 (by decide))
 replace R_b:=R_b.keep0 hI.keep
 replace R_r:=R_r.keep0 hI.keep
 have ne_r_s:=Nat.ne_of_lt (Nat.lt_of_lt_of_le lt_r lo_s)
 replace lt_r:=ltk lt_r hI.keep.size
 have hxr:=hI.keep.to_ext
 replace hx:=hx.trans hxr
 clear hI hIE hL hE L hok hxr
 simp only [putP,Act.put,zA,zB,zC,hb_s]
 go_upto_region 2 with fail
 have hok : TrsOk [] W2.heap.size ([(tk (some 2) 0 22 (some 3) (sz 32) (fun u=>u = .agg (qab (K))))] : List Trk):=⟨by simp [tk],by simp [tk],by simp [tk],by simp [tk]⟩
 have hE : ∀ p ∈ ([] : List (Nat × (Value→World→Prop))),qck [22] p.2:=fun p hp=>by cases hp
 refine qac (InvE [22] [] [] (fun j u=>match j with | 0=>u = .agg (pc N M) | 1=>u = .agg (qab (K)) | _=>True) [(tk (some 2) 0 22 (some 3) (sz 32) (fun u=>u = .agg (qab (K))))] W2) qu1 [(13,0),(14,1),(6,2)] 37 rfl (by kernel_rfl) (InvE.start0 (Inv.start0 hok (by simp))) ⟨?_,?_,?_,?_,trivial⟩ ?_
 ·exact eV hE fun L v w D N I=>ld_S (R_s.keep0 I.inv.keep) _ rfl rfl ldK
 ·exact eV hE fun L v w D N I=>gKey _ _ rfl rfl (qaf (qai (hK w) (ar1 (I.inv.val 0 (D 0 rfl)))))
 ·exact qb3 0 hE rfl rfl rfl rfl rfl rfl hok fun L v w D I=>al_B rfl fun c h=>⟨trivial,rfl,c,rfl,qa5 c h⟩
 ·exact qd2 0 2 hE rfl rfl rfl rfl rfl rfl rfl rfl hok fun L v w D I n cs hb hR ho=>st_B hR (qaq ho) _ _ rfl hb (I.inv.val 1 (D 1 rfl)) fun _ c a b k=>⟨trivial,k,c,a,b⟩
 intro L v3 W3 hL hIE
 have hI:=hIE.inv
 obtain ⟨key,hb_key,lo_key,R_key⟩:=hI.made 0 rfl (hL 2 (by decide)) (hL 3 (by decide))
 replace R_b:=R_b.keep0 hI.keep
 replace R_r:=R_r.keep0 hI.keep
 replace R_s:=R_s.keep0 hI.keep
 have ne_r_key:=Nat.ne_of_lt (Nat.lt_of_lt_of_le lt_r lo_key)
 replace lt_r:=ltk lt_r hI.keep.size
 have hxr:=hI.keep.to_ext
 replace hx:=hx.trans hxr
 clear hI hIE hL hE L hok hxr
 simp only [putP,Act.put,zA,zB,zC,hb_key]
 go_upto_region 3 with fail
 have hok : TrsOk [] W3.heap.size ([(tk (some 5) 0 22 (some 6) (sz 32) (fun u=>u = .agg (qab (D1))))] : List Trk):=⟨by simp [tk],by simp [tk],by simp [tk],by simp [tk]⟩
 have hE : ∀ p ∈ ([(3,slE 23 (fun g cs u=>u = .slice (some ⟨g,0,none⟩) 1 1∧cs = [.slice A n c]))] : List (Nat × (Value→World→Prop))),qck [22] p.2:=by
  simp only [zD,zE,zF,zG,zH]
  exact qds rfl
 refine qac (InvE [22] [(3,slE 23 (fun g cs u=>u = .slice (some ⟨g,0,none⟩) 1 1∧cs = [.slice A n c]))] [] (fun j u=>match j with | 0=>u = .pointer (some ⟨s,32,none⟩) | 1=>u = .slice (some ⟨s,32,none⟩) 32 32 | 2=>u = .slice A n c | 4=>u = .agg (qab (D1)) | _=>True) [(tk (some 5) 0 22 (some 6) (sz 32) (fun u=>u = .agg (qab (D1))))] W3) qu2 [(15,0),(16,1),(17,2),(18,3),(19,4),(7,5)] 37 rfl (by kernel_rfl) (InvE.start0 (Inv.start0 hok (by simp))) ⟨?_,?_,?_,?_,?_,?_,?_,trivial⟩ ?_
 ·exact eV hE fun L v w D N I=>qal rfl rfl fSE1 ⟨rfl,Ext.refl _⟩
 ·exact eV hE fun L v w D N I=>sl32 _ rfl (I.inv.val 0 (D 0 rfl)) ⟨rfl,Ext.refl _⟩
 ·exact eV hE fun L v w D N I=>⟨rfl,Ext.refl _⟩
 ·exact qgr 0 hE rfl rfl rfl rfl (fun _=>trivial) fun L v w D N I=>give_bs1 _ rfl (I.inv.val 2 (D 2 rfl)) ⟨⟨_,_,Row.alloc w [.slice A n c] _,rfl,rfl⟩,qaa _ _⟩
 ·exact eV hE fun L v w D N I=>by obtain ⟨g,cs,hrg,e,hc⟩:=(I.at 0 rfl (D 3 rfl));subst hc;exact gDig _ _ rfl rfl (qaf (qai (hD1 w _ _ (rd_Sm (R_s.keep0 I.inv.keep)) hrg (hx.trans I.inv.keep.to_ext)) (ar2 (I.inv.val 1 (D 1 rfl)) e)))
 ·exact qb3 0 hE rfl rfl rfl rfl rfl rfl hok fun L v w D I=>al_B rfl fun c h=>⟨trivial,rfl,c,rfl,qa5 c h⟩
 ·exact qd2 0 5 hE rfl rfl rfl rfl rfl rfl rfl rfl hok fun L v w D I n cs hb hR ho=>st_B hR (qaq ho) _ _ rfl hb (I.inv.val 4 (D 4 rfl)) fun _ c a b k=>⟨trivial,k,c,a,b⟩
 intro L v4 W4 hL hIE
 have hI:=hIE.inv
 obtain ⟨r1,hb_r1,lo_r1,R_r1⟩:=hI.made 0 rfl (hL 5 (by decide)) (hL 6 (by decide))
 replace R_b:=R_b.keep0 hI.keep
 replace R_r:=R_r.keep0 hI.keep
 replace R_s:=R_s.keep0 hI.keep
 replace R_key:=R_key.keep0 hI.keep
 have ne_r_r1:=Nat.ne_of_lt (Nat.lt_of_lt_of_le lt_r lo_r1)
 replace lt_r:=ltk lt_r hI.keep.size
 have hxr:=hI.keep.to_ext
 replace hx:=hx.trans hxr
 clear hI hIE hL hE L hok hxr
 simp only [putP,Act.put,zA,zB,zC,hb_r1]
 go_upto_region 4 with fail
 have hok : TrsOk [] W4.heap.size ([(tk (some 2) 0 22 (some 3) (sz 32) (fun u=>u = .agg (qab (P1))))] : List Trk):=⟨by simp [tk],by simp [tk],by simp [tk],by simp [tk]⟩
 have hE : ∀ p ∈ ([] : List (Nat × (Value→World→Prop))),qck [22] p.2:=fun p hp=>by cases hp
 refine qac (InvE [22] [] [] (fun j u=>match j with | 0=>u = .agg (qab (D1)) | 1=>u = .agg (qab (P1)) | _=>True) [(tk (some 2) 0 22 (some 3) (sz 32) (fun u=>u = .agg (qab (P1))))] W4) qu3 [(20,0),(21,1),(8,2)] 37 rfl (by kernel_rfl) (InvE.start0 (Inv.start0 hok (by simp))) ⟨?_,?_,?_,?_,trivial⟩ ?_
 ·exact eV hE fun L v w D N I=>ld_B (R_r1.keep0 I.inv.keep) _ rfl rfl ldK
 ·exact eV hE fun L v w D N I=>gsBase _ _ rfl rfl (qaf (qai (hP w) (ar1 (I.inv.val 0 (D 0 rfl)))))
 ·exact qb3 0 hE rfl rfl rfl rfl rfl rfl hok fun L v w D I=>al_B rfl fun c h=>⟨trivial,rfl,c,rfl,qa5 c h⟩
 ·exact qd2 0 2 hE rfl rfl rfl rfl rfl rfl rfl rfl hok fun L v w D I n cs hb hR ho=>st_B hR (qaq ho) _ _ rfl hb (I.inv.val 1 (D 1 rfl)) fun _ c a b k=>⟨trivial,k,c,a,b⟩
 intro L v5 W5 hL hIE
 have hI:=hIE.inv
 obtain ⟨pt,hb_pt,lo_pt,R_pt⟩:=hI.made 0 rfl (hL 2 (by decide)) (hL 3 (by decide))
 replace R_b:=R_b.keep0 hI.keep
 replace R_r:=R_r.keep0 hI.keep
 replace R_s:=R_s.keep0 hI.keep
 replace R_key:=R_key.keep0 hI.keep
 replace R_r1:=R_r1.keep0 hI.keep
 have ne_r_pt:=Nat.ne_of_lt (Nat.lt_of_lt_of_le lt_r lo_pt)
 replace lt_r:=ltk lt_r hI.keep.size
 have hxr:=hI.keep.to_ext
 replace hx:=hx.trans hxr
 clear hI hIE hL hE L hok hxr
 simp only [putP,Act.put,zA,zB,zC,hb_pt]
 go_upto_region 5 with fail
 have hok : TrsOk [] W5.heap.size ([(tk (some 5) 0 22 (some 6) (sz 32) (fun u=>u = .agg (qab (D2))))] : List Trk):=⟨by simp [tk],by simp [tk],by simp [tk],by simp [tk]⟩
 have hE : ∀ p ∈ ([(3,slE 23 (fun g cs u=>u = .slice (some ⟨g,0,none⟩) 2 2∧cs = [.slice (some ⟨key,0,none⟩) 32 32,.slice A n c]))] : List (Nat × (Value→World→Prop))),qck [22] p.2:=by
  simp only [zD,zE,zF,zG,zH]
  exact qds rfl
 refine qag (InvE [22] [(3,slE 23 (fun g cs u=>u = .slice (some ⟨g,0,none⟩) 2 2∧cs = [.slice (some ⟨key,0,none⟩) 32 32,.slice A n c]))] [] (fun j u=>match j with | 0=>u = .slice (some ⟨pt,0,none⟩) 32 32 | 1=>u = .slice (some ⟨key,0,none⟩) 32 32 | 2=>u = .slice A n c | 4=>u = .agg (qab (D2)) | _=>True) [(tk (some 5) 0 22 (some 6) (sz 32) (fun u=>u = .agg (qab (D2))))] W5) qu4 [(22,0),(23,1),(24,2),(25,3),(26,4),(9,5)] 37 (by kernel_rfl) rfl (by kernel_rfl) (InvE.start (Inv.start hok (by simp))) ⟨?_,?_,?_,?_,?_,?_,?_,trivial⟩ ?_
 ·exact eV hE fun L v w D N I=>sl32 _ rfl rfl ⟨rfl,Ext.refl _⟩
 ·exact eV hE fun L v w D N I=>sl32 _ rfl rfl ⟨rfl,Ext.refl _⟩
 ·exact eV hE fun L v w D N I=>⟨rfl,Ext.refl _⟩
 ·exact qgr 0 hE rfl rfl rfl rfl (fun _=>trivial) fun L v w D N I=>qjz _ _ rfl (I.inv.val 1 (D 1 rfl)) (I.inv.val 2 (D 2 rfl)) ⟨⟨_,_,Row.alloc w [.slice (some ⟨key,0,none⟩) 32 32,.slice A n c] _,rfl,rfl⟩,qaa _ _⟩
 ·exact eV hE fun L v w D N I=>by obtain ⟨g,cs,hrg,e,hc⟩:=(I.at 0 rfl (D 3 rfl));subst hc;exact gDig _ _ rfl rfl (qaf (qai (hD2 w _ _ _ (rd_B (R_pt.keep0 I.inv.keep)) hrg (rd_B (R_key.keep0 I.inv.keep)) (hx.trans I.inv.keep.to_ext)) (ar2 (I.inv.val 0 (D 0 rfl)) e)))
 ·exact qb3 0 hE rfl rfl rfl rfl rfl rfl hok fun L v w D I=>al_B rfl fun c h=>⟨trivial,rfl,c,rfl,qa5 c h⟩
 ·exact qd2 0 5 hE rfl rfl rfl rfl rfl rfl rfl rfl hok fun L v w D I n cs hb hR ho=>st_B hR (qaq ho) _ _ rfl hb (I.inv.val 4 (D 4 rfl)) fun _ c a b k=>⟨trivial,k,c,a,b⟩
 intro L v6 W6 hL hIE
 have hI:=hIE.inv
 obtain ⟨k9,hb_k9,lo_k9,R_k9⟩:=hI.made 0 rfl (hL 5 (by decide)) (hL 6 (by decide))
 replace R_b:=R_b.keep0 hI.keep
 replace R_r:=R_r.keep0 hI.keep
 replace R_s:=R_s.keep0 hI.keep
 replace R_key:=R_key.keep0 hI.keep
 replace R_r1:=R_r1.keep0 hI.keep
 replace R_pt:=R_pt.keep0 hI.keep
 have ne_r_k9:=Nat.ne_of_lt (Nat.lt_of_lt_of_le lt_r lo_k9)
 replace lt_r:=ltk lt_r hI.keep.size
 have hxr:=hI.keep.to_ext
 replace hx:=hx.trans hxr
 clear hI hIE hL hE L hok hxr
 simp only [putP,Act.put,zA,zB,zC,hb_k9]
 go_upto_region 6 with fail
 have hok : TrsOk [] W6.heap.size ([(tk (some 5) 0 22 (some 6) (sz 32) (fun u=>u = .agg (qab (S1))))] : List Trk):=⟨by simp [tk],by simp [tk],by simp [tk],by simp [tk]⟩
 have hE : ∀ p ∈ ([] : List (Nat × (Value→World→Prop))),qck [22] p.2:=fun p hp=>by cases hp
 refine qac (InvE [22] [] [] (fun j u=>match j with | 0=>u = .agg (qab (D2)) | 1=>u = .pointer (some ⟨s,0,none⟩) | 2=>u = .agg (qab (N)) | 3=>u = .agg (qab (D1)) | 4=>u = .agg (qab (S1)) | _=>True) [(tk (some 5) 0 22 (some 6) (sz 32) (fun u=>u = .agg (qab (S1))))] W6) qu5 [(27,0),(28,1),(29,2),(30,3),(31,4),(10,5)] 37 rfl (by kernel_rfl) (InvE.start0 (Inv.start0 hok (by simp))) ⟨?_,?_,?_,?_,?_,?_,?_,trivial⟩ ?_
 ·exact eV hE fun L v w D N I=>ld_B (R_k9.keep0 I.inv.keep) _ rfl rfl ldK
 ·exact eV hE fun L v w D N I=>qal rfl rfl fSE0 ⟨rfl,Ext.refl _⟩
 ·exact eV hE fun L v w D N I=>ld_Sx (R_s.keep0 I.inv.keep) _ rfl (I.inv.val 1 (D 1 rfl)) ldK
 ·exact eV hE fun L v w D N I=>ld_B (R_r1.keep0 I.inv.keep) _ rfl rfl ldK
 ·exact eV hE fun L v w D N I=>gcMA _ _ rfl rfl (qaf (qai (hM w) (ar3 (I.inv.val 0 (D 0 rfl)) (I.inv.val 2 (D 2 rfl)) (I.inv.val 3 (D 3 rfl)))))
 ·exact qb3 0 hE rfl rfl rfl rfl rfl rfl hok fun L v w D I=>al_B rfl fun c h=>⟨trivial,rfl,c,rfl,qa5 c h⟩
 ·exact qd2 0 5 hE rfl rfl rfl rfl rfl rfl rfl rfl hok fun L v w D I n cs hb hR ho=>st_B hR (qaq ho) _ _ rfl hb (I.inv.val 4 (D 4 rfl)) fun _ c a b k=>⟨trivial,k,c,a,b⟩
 intro L v7 W7 hL hIE
 have hI:=hIE.inv
 obtain ⟨last,hb_last,lo_last,R_last⟩:=hI.made 0 rfl (hL 5 (by decide)) (hL 6 (by decide))
 replace R_b:=R_b.keep0 hI.keep
 replace R_r:=R_r.keep0 hI.keep
 replace R_s:=R_s.keep0 hI.keep
 replace R_key:=R_key.keep0 hI.keep
 replace R_r1:=R_r1.keep0 hI.keep
 replace R_pt:=R_pt.keep0 hI.keep
 replace R_k9:=R_k9.keep0 hI.keep
 have ne_r_last:=Nat.ne_of_lt (Nat.lt_of_lt_of_le lt_r lo_last)
 replace lt_r:=ltk lt_r hI.keep.size
 have hxr:=hI.keep.to_ext
 replace hx:=hx.trans hxr
 clear hI hIE hL hE L hok hxr
 simp only [putP,Act.put,zA,zB,zC,hb_last]
 go_upto_region 7 with fail
 have hok : TrsOk [r] W7.heap.size ([(tk (none) r 26 (some 5) (sz 64) (fun u=>u = h64 (qao P1 ++ qao S1)))] : List Trk):=⟨by simp [tk,R_r.lt],by simp [tk],by simp [tk],by simp [tk]⟩
 have hE : ∀ p ∈ ([(2,slE 5 (fun g cs u=>(∃ c,u = .slice (some ⟨g,0,none⟩) 64 c)∧cs.take 64 = (qao P1 ++ qao S1).map bv)),(3,slE 5 (fun g cs u=>u = .pointer (some ⟨g,0,none⟩)∧cs.take 64 = (qao P1 ++ qao S1).map bv))] : List (Nat × (Value→World→Prop))),qck [26] p.2:=by
  simp only [zD,zE,zF,zG,zH]
  exact ⟨qds rfl,qds rfl⟩
 refine qag (InvE [26] [(2,slE 5 (fun g cs u=>(∃ c,u = .slice (some ⟨g,0,none⟩) 64 c)∧cs.take 64 = (qao P1 ++ qao S1).map bv)),(3,slE 5 (fun g cs u=>u = .pointer (some ⟨g,0,none⟩)∧cs.take 64 = (qao P1 ++ qao S1).map bv))] [r] (fun j u=>match j with | 0=>u = .slice (some ⟨pt,0,none⟩) 32 32 | 1=>u = .slice (some ⟨last,0,none⟩) 32 32 | 4=>u = h64 (qao P1 ++ qao S1) | _=>True) [(tk (none) r 26 (some 5) (sz 64) (fun u=>u = h64 (qao P1 ++ qao S1)))] W7) qu6 [(32,0),(33,1),(34,2),(35,3),(36,4)] 37 (by kernel_rfl) rfl (by kernel_rfl) (InvE.start (Inv.start hok (by
   simp only [zD,zE,zF,zG,zH]
   exact fun _=>R_r))) ⟨?_,?_,?_,?_,?_,?_,trivial⟩ ?_
 ·exact eV hE fun L v w D N I=>sl32 _ rfl rfl ⟨rfl,Ext.refl _⟩
 ·exact eV hE fun L v w D N I=>sl32 _ rfl rfl ⟨rfl,Ext.refl _⟩
 ·exact qgr 0 hE rfl rfl rfl rfl (fun _=>trivial) fun L v w D N I=>qok _ _ rfl (qao P1) (qao S1) (I.inv.val 0 (D 0 rfl)) (I.inv.val 1 (D 1 rfl)) (qau _) (qau _) (rd_B (R_pt.keep1 I.inv.keep (Ne.symm ne_r_pt))) (rd_B (R_last.keep1 I.inv.keep (Ne.symm ne_r_last))) fun u w1 h1 h2=>⟨h1,h2⟩
 ·exact qgr 1 hE rfl rfl rfl rfl (fun _=>trivial) fun L v w D N I=>by obtain ⟨g,cs,hrg,⟨c9,e⟩,ht⟩:=(I.at 0 rfl (D 2 rfl));exact qc6 _ _ rfl _ _ _ 64 _ e u64a (by decide) ⟨⟨g,cs,hrg,rfl,ht⟩,Ext.refl _⟩
 ·exact eV hE fun L v w D N I=>by obtain ⟨g,cs,hrg,e,ht⟩:=(I.at 1 rfl (D 3 rfl));exact ld_E64 hrg ht hl64 _ rfl e ldK
 ·exact qhb 0 hE rfl rfl rfl rfl rfl rfl rfl hok fun L v w D I cs hR ho=>st_H hR (qaq ho) hl64 _ _ rfl rfl (I.inv.val 4 (D 4 rfl)) fun _ c a b k=>⟨trivial,k,c,a,b⟩
 intro L v8 W8 hL hIE
 have hI:=hIE.inv
 replace R_b:=R_b.keep1 hI.keep ne_b_r
 replace R_s:=R_s.keep1 hI.keep (Ne.symm ne_r_s)
 replace R_key:=R_key.keep1 hI.keep (Ne.symm ne_r_key)
 replace R_r1:=R_r1.keep1 hI.keep (Ne.symm ne_r_r1)
 replace R_pt:=R_pt.keep1 hI.keep (Ne.symm ne_r_pt)
 replace R_k9:=R_k9.keep1 hI.keep (Ne.symm ne_r_k9)
 replace R_last:=R_last.keep1 hI.keep (Ne.symm ne_r_last)
 replace R_r:=hI.new 0 rfl (hL 5 (by decide))
 replace lt_r:=ltk lt_r hI.keep.size
 replace hx:=hx.keep1 hI.keep bs_r
 clear hI hIE hL hE L hok
 simp only [putP,Act.put,zA,zB,zC]
 go_wp2
 refine bodyPost_ret (qpx rfl _ hl64 R_r rfl) rfl ⟨?_,hx⟩
 rw [hfin.out]
end Go.Proofs.YtgeihelkkhjjaaaGreatDoor
