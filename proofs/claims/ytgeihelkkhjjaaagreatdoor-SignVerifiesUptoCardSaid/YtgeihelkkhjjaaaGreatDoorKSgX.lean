/-
  The package sign: Verify.
-/
import Derived.Test.YtgeihelkkhjjaaaGreatDoorKSgH
import Derived.Test.YtgeihelkkhjjaaaGreatDoorKSgW
import Derived.Test.YtgeihelkkhjjaaaGreatDoorKSgC
set_option linter.unusedSimpArgs false
set_option linter.unusedVariables false
set_option maxRecDepth 20000
set_option maxHeartbeats 16000000
namespace Go.Proofs.YtgeihelkkhjjaaaGreatDoor
open Go.RowKit Go.Cv Go.Cv.Pr Go.Cv.Grp Go.Cv.Hash
def qu7 : List Plan:=[⟨[],[]⟩]
def qu8 : List Plan:=[⟨[],[]⟩,⟨[0],[(9,0)]⟩,⟨[0,1],[(10,1)]⟩,⟨[0,1,2],[(11,2)]⟩,⟨[0,1,2,3],[(12,3)]⟩,⟨[0,1,2,3,4],[(12,3),(13,4)]⟩,⟨[0,1,2,3,4,5],[(12,3),(14,5)]⟩,⟨[0,1,2,3,4,5,6],[(12,3),(15,6)]⟩,⟨[0,1,2,3,4,5,6,7],[(16,7)]⟩,⟨[0,1,2,3,4,5,6,7,8],[(17,8)]⟩,⟨[0,1,2,3,4,5,6,7,8,9],[(17,8),(18,9)]⟩,⟨[0,1,2,3,4,5,6,7,8,9,10],[(17,8),(19,10)]⟩,⟨[0,1,2,3,4,5,6,7,8,9,10,11],[(17,8),(20,11)]⟩,⟨[0,1,2,3,4,5,6,7,8,9,10,11,12],[(17,8),(21,12)]⟩,⟨[0,1,2,3,4,5,6,7,8,9,10,11,12,13],[(17,8),(22,13)]⟩,⟨[0,1,2,3,4,5,6,7,8,9,10,11,12,13,14],[(17,8),(23,14)]⟩]
def qu9 : List Plan:=[⟨[],[]⟩]
def qva : List Plan:=[⟨[],[]⟩,⟨[0],[(26,0)]⟩,⟨[0,1],[(27,1)]⟩,⟨[],[]⟩,⟨[3],[(29,3)]⟩,⟨[],[]⟩,⟨[],[]⟩,⟨[5,6],[(31,5),(32,6)]⟩,⟨[3,4,5,6,7],[(30,4),(33,7)]⟩,⟨[],[]⟩,⟨[9],[(35,9)]⟩,⟨[9,10],[(36,10)]⟩,⟨[9,10,11],[(37,11)]⟩,⟨[0,1,2,3,4,5,6,7,8,9,10,11,12],[(28,2),(34,8),(38,12)]⟩,⟨[0,1,2,3,4,5,6,7,8,9,10,11,12,13],[(39,13)]⟩,⟨[0,1,2,3,4,5,6,7,8,9,10,11,12,13,14],[(25,14)]⟩,⟨[0,1,2,3,4,5,6,7,8,9,10,11,12,13,14],[(25,14)]⟩,⟨[],[]⟩,⟨[0,1,2,3,4,5,6,7,8,9,10,11,12,13,14,15,17],[(40,15),(7,17)]⟩,⟨[0,1,2,3,4,5,6,7,8,9,10,11,12,13,14,15,16,17,18],[(41,16)]⟩]
def qvb : List Plan:=[⟨[],[]⟩,⟨[0],[(42,0)]⟩,⟨[0,1],[(43,1)]⟩,⟨[0,1,2],[(44,2)]⟩,⟨[0,1,2],[(44,2)]⟩,⟨[0,1,2,4],[(44,2),(46,4)]⟩,⟨[0,1,2,3,4,5],[(44,2),(45,3),(47,5)]⟩,⟨[0,1,2,3,4,5,6],[(44,2),(48,6)]⟩,⟨[0,1,2,3,4,5,6,7],[(49,7)]⟩]
theorem ver_a (A1 : Option Addr) (n1 c1 : Nat) (A2 : Option Addr) (n2 c2 : Nat) (A3 : Option Addr) (n3 c3 : Nat) (w : World)
  (h : n1 ≠ 32) :
  Calls Tryz.prog 11 #[.slice A1 n1 c1,.slice A2 n2 c2,.slice A3 n3 c3] w fun e w'=>e = .returned (.bool false)∧Ext w w':=by
 have h1 : decide ((n1 : Int) ≠ 32) = true:=decide_eq_true (by omega)
 have hres : (false : Bool) = false:=rfl
 go_enter Tryz.func11,Tryz.ntmps11
 go_upto_region 0 with fail
 have hx : Ext w w:=Ext.refl w
 have hE:=hE0 []
 refine qac (InvE [] [] [] (fun j u=>match j with | 0=>u = .bool false | _=>True) [] w) qu7 [(6,0)] 50 rfl (by kernel_rfl) (InvE.start0 (Inv.start0 ⟨by simp,by simp,by simp,by simp⟩ (by simp))) ⟨?_,trivial⟩ ?_
 ·exact eV hE fun L v w D N I=>⟨rfl,Ext.refl _⟩
 intro L v1 W1 hL hIE
 have hI:=hIE.inv
 have hxr:=hI.keep.to_ext
 replace hx:=hx.trans hxr
 clear hI hIE hL hE L hxr
 simp only [putP,Act.put,zA,zB,zC]
 go_upto_region 1 with fail
 have hE:=hE0 []
 refine qac (InvE [] [] [] (fun j u=>match j with | 0=>u = .slice A1 n1 c1 | 1=>u = .int .i64 (n1 : Int) | 2=>u = .bool true | 3=>u = .bool true | 4=>u = undef | 5=>u = undef | 6=>u = undef | 7=>u = .bool true | 8=>u = .bool true | 9=>u = undef | 10=>u = undef | 11=>u = undef | 12=>u = undef | 13=>u = undef | 14=>u = undef | 15=>u = .bool true | _=>True) [] W1) qu8 [(9,0),(10,1),(11,2),(12,3),(13,4),(14,5),(15,6),(16,7),(17,8),(18,9),(19,10),(20,11),(21,12),(22,13),(23,14),(24,15)] 50 rfl (by kernel_rfl) (InvE.start0 (Inv.start0 ⟨by simp,by simp,by simp,by simp⟩ (by simp))) ⟨?_,?_,?_,?_,?_,?_,?_,?_,?_,?_,?_,?_,?_,?_,?_,?_,trivial⟩ ?_
 ·exact eV hE fun L v w D N I=>⟨rfl,Ext.refl _⟩
 ·exact eV hE fun L v w D N I=>qdl _ rfl (I.inv.val 0 (D 0 rfl)) ⟨rfl,Ext.refl _⟩
 ·exact eV hE fun L v w D N I=>qdk _ _ _ _ 32 _ rfl (I.inv.val 1 (D 1 rfl)) rfl h1 ⟨rfl,Ext.refl _⟩
 ·exact eV hE fun L v w D N I=>⟨(I.inv.val 2 (D 2 rfl)),Ext.refl _⟩
 ·exact qb6 hE rfl rfl rfl rfl rfl (fun u h=>h)
 ·exact qb6 hE rfl rfl rfl rfl rfl (fun u h=>h)
 ·exact qb6 hE rfl rfl rfl rfl rfl (fun u h=>h)
 ·exact eV hE fun L v w D N I=>qbi _ _ _ rfl (I.inv.val 3 (D 3 rfl)) ⟨rfl,Ext.refl _⟩
 ·exact eV hE fun L v w D N I=>⟨(I.inv.val 7 (D 7 rfl)),Ext.refl _⟩
 ·exact qb6 hE rfl rfl rfl rfl rfl (fun u h=>h)
 ·exact qb6 hE rfl rfl rfl rfl rfl (fun u h=>h)
 ·exact qb6 hE rfl rfl rfl rfl rfl (fun u h=>h)
 ·exact qb6 hE rfl rfl rfl rfl rfl (fun u h=>h)
 ·exact qb6 hE rfl rfl rfl rfl rfl (fun u h=>h)
 ·exact qb6 hE rfl rfl rfl rfl rfl (fun u h=>h)
 ·exact eV hE fun L v w D N I=>qbi _ _ _ rfl (I.inv.val 8 (D 8 rfl)) ⟨rfl,Ext.refl _⟩
 intro L v2 W2 hL hIE
 have hI:=hIE.inv
 have hxr:=hI.keep.to_ext
 replace hx:=hx.trans hxr
 have hs_24_1 : (v2 15) = .bool true:=hI.val 15 (hL 15 (by decide))
 clear hI hIE hL hE L hxr
 simp only [putP,Act.put,zA,zB,zC,hs_24_1]
 go_upto_region 2 with fail
 have hE:=hE0 []
 refine qac (InvE [] [] [] (fun j u=>match j with | 0=>u = .bool false | _=>True) [] W2) qu9 [(6,0)] 50 rfl (by kernel_rfl) (InvE.start0 (Inv.start0 ⟨by simp,by simp,by simp,by simp⟩ (by simp))) ⟨?_,trivial⟩ ?_
 ·exact eV hE fun L v w D N I=>⟨rfl,Ext.refl _⟩
 intro L v3 W3 hL hIE
 have hI:=hIE.inv
 have hxr:=hI.keep.to_ext
 replace hx:=hx.trans hxr
 have hs_6_2 : (v3 0) = .bool false:=hI.val 0 (hL 0 (by decide))
 clear hI hIE hL hE L hxr
 simp only [putP,Act.put,zA,zB,zC,hs_6_2]
 go_wp2
 go_ret
 exact ⟨rfl,hx⟩
theorem ver_b (A1 : Option Addr) (n1 c1 : Nat) (A2 : Option Addr) (n2 c2 : Nat) (A3 : Option Addr) (n3 c3 : Nat) (w : World)
  (h : n1 = 32) (h2 : n3 ≠ 64) :
  Calls Tryz.prog 11 #[.slice A1 n1 c1,.slice A2 n2 c2,.slice A3 n3 c3] w fun e w'=>e = .returned (.bool false)∧Ext w w':=by
 have h1 : decide ((n1 : Int) ≠ 32) = false:=decide_eq_false (by omega)
 have h3 : decide ((n3 : Int) ≠ 64) = true:=decide_eq_true (by omega)
 go_enter Tryz.func11,Tryz.ntmps11
 go_upto_region 0 with fail
 have hx : Ext w w:=Ext.refl w
 have hE:=hE0 []
 refine qac (InvE [] [] [] (fun j u=>match j with | 0=>u = .bool false | _=>True) [] w) qu7 [(6,0)] 50 rfl (by kernel_rfl) (InvE.start0 (Inv.start0 ⟨by simp,by simp,by simp,by simp⟩ (by simp))) ⟨?_,trivial⟩ ?_
 ·exact eV hE fun L v w D N I=>⟨rfl,Ext.refl _⟩
 intro L v1 W1 hL hIE
 have hI:=hIE.inv
 have hxr:=hI.keep.to_ext
 replace hx:=hx.trans hxr
 clear hI hIE hL hE L hxr
 simp only [putP,Act.put,zA,zB,zC]
 go_upto_region 1 with fail
 have hE:=hE0 []
 refine qac (InvE [] [] [] (fun j u=>match j with | 0=>u = .slice A1 n1 c1 | 1=>u = .int .i64 (n1 : Int) | 2=>u = .bool false | 3=>u = .bool false | 4=>u = .slice A3 n3 c3 | 5=>u = .int .i64 (n3 : Int) | 6=>u = .bool true | 7=>u = .bool true | 8=>u = .bool true | 9=>u = undef | 10=>u = undef | 11=>u = undef | 12=>u = undef | 13=>u = undef | 14=>u = undef | 15=>u = .bool true | _=>True) [] W1) qu8 [(9,0),(10,1),(11,2),(12,3),(13,4),(14,5),(15,6),(16,7),(17,8),(18,9),(19,10),(20,11),(21,12),(22,13),(23,14),(24,15)] 50 rfl (by kernel_rfl) (InvE.start0 (Inv.start0 ⟨by simp,by simp,by simp,by simp⟩ (by simp))) ⟨?_,?_,?_,?_,?_,?_,?_,?_,?_,?_,?_,?_,?_,?_,?_,?_,trivial⟩ ?_
 ·exact eV hE fun L v w D N I=>⟨rfl,Ext.refl _⟩
 ·exact eV hE fun L v w D N I=>qdl _ rfl (I.inv.val 0 (D 0 rfl)) ⟨rfl,Ext.refl _⟩
 ·exact eV hE fun L v w D N I=>qdk _ _ _ _ 32 _ rfl (I.inv.val 1 (D 1 rfl)) rfl h1 ⟨rfl,Ext.refl _⟩
 ·exact eV hE fun L v w D N I=>⟨(I.inv.val 2 (D 2 rfl)),Ext.refl _⟩
 ·exact qan hE rfl rfl rfl rfl (fun u h=>h) fun L v w D N I=>⟨rfl,Ext.refl _⟩
 ·exact qan hE rfl rfl rfl rfl (fun u h=>h) fun L v w D N I=>qdl _ rfl (I.inv.val 4 (D 4 rfl)) ⟨rfl,Ext.refl _⟩
 ·exact qan hE rfl rfl rfl rfl (fun u h=>h) fun L v w D N I=>qdk _ _ _ _ 64 _ rfl (I.inv.val 5 (D 5 rfl)) rfl h3 ⟨rfl,Ext.refl _⟩
 ·exact eV hE fun L v w D N I=>qce _ _ _ rfl (I.inv.val 3 (D 3 rfl)) ⟨(I.inv.val 6 (D 6 rfl)),Ext.refl _⟩
 ·exact eV hE fun L v w D N I=>⟨(I.inv.val 7 (D 7 rfl)),Ext.refl _⟩
 ·exact qb6 hE rfl rfl rfl rfl rfl (fun u h=>h)
 ·exact qb6 hE rfl rfl rfl rfl rfl (fun u h=>h)
 ·exact qb6 hE rfl rfl rfl rfl rfl (fun u h=>h)
 ·exact qb6 hE rfl rfl rfl rfl rfl (fun u h=>h)
 ·exact qb6 hE rfl rfl rfl rfl rfl (fun u h=>h)
 ·exact qb6 hE rfl rfl rfl rfl rfl (fun u h=>h)
 ·exact eV hE fun L v w D N I=>qbi _ _ _ rfl (I.inv.val 8 (D 8 rfl)) ⟨rfl,Ext.refl _⟩
 intro L v2 W2 hL hIE
 have hI:=hIE.inv
 have hxr:=hI.keep.to_ext
 replace hx:=hx.trans hxr
 have hs_24_1 : (v2 15) = .bool true:=hI.val 15 (hL 15 (by decide))
 clear hI hIE hL hE L hxr
 simp only [putP,Act.put,zA,zB,zC,hs_24_1]
 go_upto_region 2 with fail
 have hE:=hE0 []
 refine qac (InvE [] [] [] (fun j u=>match j with | 0=>u = .bool false | _=>True) [] W2) qu9 [(6,0)] 50 rfl (by kernel_rfl) (InvE.start0 (Inv.start0 ⟨by simp,by simp,by simp,by simp⟩ (by simp))) ⟨?_,trivial⟩ ?_
 ·exact eV hE fun L v w D N I=>⟨rfl,Ext.refl _⟩
 intro L v3 W3 hL hIE
 have hI:=hIE.inv
 have hxr:=hI.keep.to_ext
 replace hx:=hx.trans hxr
 have hs_6_2 : (v3 0) = .bool false:=hI.val 0 (hL 0 (by decide))
 clear hI hIE hL hE L hxr
 simp only [putP,Act.put,zA,zB,zC,hs_6_2]
 go_wp2
 go_ret
 exact ⟨rfl,hx⟩
theorem ver_c (A1 : Option Addr) (c1 : Nat) (A2 : Option Addr) (n2 c2 : Nat) (A3 : Option Addr) (c3 : Nat) (adS : Addr) (S : Nat→UInt8) (g : List UInt8) (w : World)
  (hc3 : 64 ≤ c3) (hcut : cutA A3 32 c3 1 = some adS) (hg : g.length = 64) (hS : lf g 32 = S) (hrS : Rd w (some adS) ((g.map bv).drop 32)) (hlo : ¬ V (lf g 32) < ordN) :
  Calls Tryz.prog 11 #[.slice A1 32 c1,.slice A2 n2 c2,.slice A3 64 c3] w fun e w'=>e = .returned (.bool false)∧Ext w w':=by
 subst hS
 have hl3 : 32 + 32 ≤ g.length:=by omega
 have h1 : decide (((32 : Nat) : Int) ≠ 32) = false:=rfl
 have h3 : decide (((64 : Nat) : Int) ≠ 64) = false:=rfl
 have hlow : ∀ w' : World,Calls Tryz.prog 26 #[.agg (qab (lf g 32))] w' fun e w2=>e = .returned (.bool false)∧Ext w' w2:=fun w'=>by
  have:=ql7 (lf g 32) w'
  rwa [qqo,decide_eq_false hlo] at this
 go_enter Tryz.func11,Tryz.ntmps11
 go_upto_region 0 with fail
 have hx : Ext w w:=Ext.refl w
 have hE:=hE0 []
 refine qac (InvE [] [] [] (fun j u=>match j with | 0=>u = .bool false | _=>True) [] w) qu7 [(6,0)] 50 rfl (by kernel_rfl) (InvE.start0 (Inv.start0 ⟨by simp,by simp,by simp,by simp⟩ (by simp))) ⟨?_,trivial⟩ ?_
 ·exact eV hE fun L v w D N I=>⟨rfl,Ext.refl _⟩
 intro L v1 W1 hL hIE
 have hI:=hIE.inv
 have hxr:=hI.keep.to_ext
 replace hx:=hx.trans hxr
 clear hI hIE hL hE L hxr
 simp only [putP,Act.put,zA,zB,zC]
 go_upto_region 1 with fail
 have hE:=hE0 []
 refine qac (InvE [] [] [] (fun j u=>match j with | 0=>u = .slice A1 32 c1 | 1=>u = .int .i64 ((32 : Nat) : Int) | 2=>u = .bool false | 3=>u = .bool false | 4=>u = .slice A3 64 c3 | 5=>u = .int .i64 ((64 : Nat) : Int) | 6=>u = .bool false | 7=>u = .bool false | 8=>u = .bool false | 9=>u = .slice A3 64 c3 | 10=>u = .slice (some adS) 32 (c3 - 32) | 11=>u = .pointer (some adS) | 12=>u = .agg (qab (lf g 32)) | 13=>u = .bool false | 14=>u = .bool true | 15=>u = .bool true | _=>True) [] W1) qu8 [(9,0),(10,1),(11,2),(12,3),(13,4),(14,5),(15,6),(16,7),(17,8),(18,9),(19,10),(20,11),(21,12),(22,13),(23,14),(24,15)] 50 rfl (by kernel_rfl) (InvE.start0 (Inv.start0 ⟨by simp,by simp,by simp,by simp⟩ (by simp))) ⟨?_,?_,?_,?_,?_,?_,?_,?_,?_,?_,?_,?_,?_,?_,?_,?_,trivial⟩ ?_
 ·exact eV hE fun L v w D N I=>⟨rfl,Ext.refl _⟩
 ·exact eV hE fun L v w D N I=>qdl _ rfl (I.inv.val 0 (D 0 rfl)) ⟨rfl,Ext.refl _⟩
 ·exact eV hE fun L v w D N I=>qdk _ _ _ _ 32 _ rfl (I.inv.val 1 (D 1 rfl)) rfl h1 ⟨rfl,Ext.refl _⟩
 ·exact eV hE fun L v w D N I=>⟨(I.inv.val 2 (D 2 rfl)),Ext.refl _⟩
 ·exact qan hE rfl rfl rfl rfl (fun u h=>h) fun L v w D N I=>⟨rfl,Ext.refl _⟩
 ·exact qan hE rfl rfl rfl rfl (fun u h=>h) fun L v w D N I=>qdl _ rfl (I.inv.val 4 (D 4 rfl)) ⟨rfl,Ext.refl _⟩
 ·exact qan hE rfl rfl rfl rfl (fun u h=>h) fun L v w D N I=>qdk _ _ _ _ 64 _ rfl (I.inv.val 5 (D 5 rfl)) rfl h3 ⟨rfl,Ext.refl _⟩
 ·exact eV hE fun L v w D N I=>qce _ _ _ rfl (I.inv.val 3 (D 3 rfl)) ⟨(I.inv.val 6 (D 6 rfl)),Ext.refl _⟩
 ·exact eV hE fun L v w D N I=>⟨(I.inv.val 7 (D 7 rfl)),Ext.refl _⟩
 ·exact qan hE rfl rfl rfl rfl (fun u h=>h) fun L v w D N I=>⟨rfl,Ext.refl _⟩
 ·exact qan hE rfl rfl rfl rfl (fun u h=>h) fun L v w D N I=>qiw _ rfl rfl (I.inv.val 9 (D 9 rfl)) hc3 hcut ⟨rfl,Ext.refl _⟩
 ·exact qan hE rfl rfl rfl rfl (fun u h=>h) fun L v w D N I=>qc6 _ _ rfl _ _ _ 32 _ (I.inv.val 10 (D 10 rfl)) u22 (by decide) ⟨rfl,Ext.refl _⟩
 ·exact qan hE rfl rfl rfl rfl (fun u h=>h) fun L v w D N I=>qf4 32 (hrS.ext (hx.trans I.inv.keep.to_ext)) hl3 _ rfl (I.inv.val 11 (D 11 rfl)) ldK
 ·exact qan hE rfl rfl rfl rfl (fun u h=>h) fun L v w D N I=>gLow _ _ rfl rfl (qaf (qai (hlow w) (ar1 (I.inv.val 12 (D 12 rfl)))))
 ·exact qan hE rfl rfl rfl rfl (fun u h=>h) fun L v w D N I=>qhq _ _ rfl (I.inv.val 13 (D 13 rfl)) ⟨rfl,Ext.refl _⟩
 ·exact eV hE fun L v w D N I=>qce _ _ _ rfl (I.inv.val 8 (D 8 rfl)) ⟨(I.inv.val 14 (D 14 rfl)),Ext.refl _⟩
 intro L v2 W2 hL hIE
 have hI:=hIE.inv
 have hxr:=hI.keep.to_ext
 replace hx:=hx.trans hxr
 have hs_24_1 : (v2 15) = .bool true:=hI.val 15 (hL 15 (by decide))
 clear hI hIE hL hE L hxr
 simp only [putP,Act.put,zA,zB,zC,hs_24_1]
 go_upto_region 2 with fail
 have hE:=hE0 []
 refine qac (InvE [] [] [] (fun j u=>match j with | 0=>u = .bool false | _=>True) [] W2) qu9 [(6,0)] 50 rfl (by kernel_rfl) (InvE.start0 (Inv.start0 ⟨by simp,by simp,by simp,by simp⟩ (by simp))) ⟨?_,trivial⟩ ?_
 ·exact eV hE fun L v w D N I=>⟨rfl,Ext.refl _⟩
 intro L v3 W3 hL hIE
 have hI:=hIE.inv
 have hxr:=hI.keep.to_ext
 replace hx:=hx.trans hxr
 have hs_6_2 : (v3 0) = .bool false:=hI.val 0 (hL 0 (by decide))
 clear hI hIE hL hE L hxr
 simp only [putP,Act.put,zA,zB,zC,hs_6_2]
 go_wp2
 go_ret
 exact ⟨rfl,hx⟩
theorem ver_d (adK : Addr) (c1 : Nat) (A2 : Option Addr) (n2 c2 : Nat) (A3 : Option Addr) (c3 : Nat) (P : P7) (adS : Addr) (S : Nat→UInt8) (key t g : List UInt8) (w : World)
  (hc3 : 64 ≤ c3) (hcut : cutA A3 32 c3 1 = some adS) (hg : g.length = 64) (hS : lf g 32 = S) (hrS : Rd w (some adS) ((g.map bv).drop 32)) (hlo : V (lf g 32) < ordN) (hk : key.length = 32) (hc1 : 32 ≤ c1) (hrK : Rd w (some adK) (key.map bv)) (ht : t.length = n2) (hc2 : n2 ≤ c2) (hrT : Rd w A2 (t.map bv)) (hrR : Rd w A3 ((g.take 32).map bv)) (bnd : n2 ≤ 4900000) (hT : Tab64 w) (hP : decP (lf key 0) = some P) :
  Calls Tryz.prog 11 #[.slice (some adK) 32 c1,.slice A2 n2 c2,.slice A3 64 c3] w fun e w'=>e = .returned (.bool (qlt (decP (lf key 0)) (sDig (g.take 32 ++ (key ++ t))) g))∧Ext w w':=by
 subst hS
 have hl3 : 32 + 32 ≤ g.length:=by omega
 have h1 : decide (((32 : Nat) : Int) ≠ 32) = false:=rfl
 have h3 : decide (((64 : Nat) : Int) ≠ 64) = false:=rfl
 have hlow : ∀ w' : World,Calls Tryz.prog 26 #[.agg (qab (lf g 32))] w' fun e w2=>e = .returned (.bool true)∧Ext w' w2:=fun w'=>by
  have:=ql7 (lf g 32) w'
  rwa [qqo,decide_eq_true hlo] at this
 have hl1 : 0 + 32 ≤ key.length:=by omega
 have hg32 : (g.take 32).length = 32:=by simp [hg]
 have hrK0 : Rd w (some adK) ((key.map bv).drop 0):=hrK
 have hD : ∀ (w' : World) (gg : Nat),Row w' gg 23 [.slice (some adK) 32 c1,.slice A2 n2 c2]→Ext w w'→Calls Tryz.prog 16 #[.slice A3 32 c3,.slice (some ⟨gg,0,none⟩) 2 2] w' fun e w2=>e = .returned (.agg (qab (sDig (g.take 32 ++ (key ++ t)))))∧Ext w' w2:=fun w' gg h1 hx=>sdig2 A3 32 c3 _ gg (some adK) 32 c1 key A2 n2 c2 t w' hg32 (by omega) (hrR.ext hx) h1 hk hc1 (hrK.ext hx) ht hc2 (hrT.ext hx) (by omega) (hT.ext hx)
 generalize sDig (g.take 32 ++ (key ++ t)) = D at *
 have hchk : ∀ w' : World,Calls Tryz.prog 27 #[.agg (qab (lf key 0)),.agg (qab D),.agg (qab (lf g 32))] w' fun e w2=>e = .returned (.tuple #[.agg (qab (sChk P D (lf g 32))),.nilIface])∧Ext w' w2:=fun w'=>qos (qek hP).1 (qek hP).2 w'
 have hres : qlt (decP (lf key 0)) D g = (qao (sChk P D (lf g 32)) == g.take 32):=by rw [hP];rfl
 generalize sChk P D (lf g 32) = C at *
 go_enter Tryz.func11,Tryz.ntmps11
 go_upto_region 0 with fail
 have hx : Ext w w:=Ext.refl w
 have hE:=hE0 []
 refine qac (InvE [] [] [] (fun j u=>match j with | 0=>u = .bool false | _=>True) [] w) qu7 [(6,0)] 50 rfl (by kernel_rfl) (InvE.start0 (Inv.start0 ⟨by simp,by simp,by simp,by simp⟩ (by simp))) ⟨?_,trivial⟩ ?_
 ·exact eV hE fun L v w D N I=>⟨rfl,Ext.refl _⟩
 intro L v1 W1 hL hIE
 have hI:=hIE.inv
 have hxr:=hI.keep.to_ext
 replace hx:=hx.trans hxr
 clear hI hIE hL hE L hxr
 simp only [putP,Act.put,zA,zB,zC]
 go_upto_region 1 with fail
 have hE:=hE0 []
 refine qac (InvE [] [] [] (fun j u=>match j with | 0=>u = .slice (some adK) 32 c1 | 1=>u = .int .i64 ((32 : Nat) : Int) | 2=>u = .bool false | 3=>u = .bool false | 4=>u = .slice A3 64 c3 | 5=>u = .int .i64 ((64 : Nat) : Int) | 6=>u = .bool false | 7=>u = .bool false | 8=>u = .bool false | 9=>u = .slice A3 64 c3 | 10=>u = .slice (some adS) 32 (c3 - 32) | 11=>u = .pointer (some adS) | 12=>u = .agg (qab (lf g 32)) | 13=>u = .bool true | 14=>u = .bool false | 15=>u = .bool false | _=>True) [] W1) qu8 [(9,0),(10,1),(11,2),(12,3),(13,4),(14,5),(15,6),(16,7),(17,8),(18,9),(19,10),(20,11),(21,12),(22,13),(23,14),(24,15)] 50 rfl (by kernel_rfl) (InvE.start0 (Inv.start0 ⟨by simp,by simp,by simp,by simp⟩ (by simp))) ⟨?_,?_,?_,?_,?_,?_,?_,?_,?_,?_,?_,?_,?_,?_,?_,?_,trivial⟩ ?_
 ·exact eV hE fun L v w D N I=>⟨rfl,Ext.refl _⟩
 ·exact eV hE fun L v w D N I=>qdl _ rfl (I.inv.val 0 (D 0 rfl)) ⟨rfl,Ext.refl _⟩
 ·exact eV hE fun L v w D N I=>qdk _ _ _ _ 32 _ rfl (I.inv.val 1 (D 1 rfl)) rfl h1 ⟨rfl,Ext.refl _⟩
 ·exact eV hE fun L v w D N I=>⟨(I.inv.val 2 (D 2 rfl)),Ext.refl _⟩
 ·exact qan hE rfl rfl rfl rfl (fun u h=>h) fun L v w D N I=>⟨rfl,Ext.refl _⟩
 ·exact qan hE rfl rfl rfl rfl (fun u h=>h) fun L v w D N I=>qdl _ rfl (I.inv.val 4 (D 4 rfl)) ⟨rfl,Ext.refl _⟩
 ·exact qan hE rfl rfl rfl rfl (fun u h=>h) fun L v w D N I=>qdk _ _ _ _ 64 _ rfl (I.inv.val 5 (D 5 rfl)) rfl h3 ⟨rfl,Ext.refl _⟩
 ·exact eV hE fun L v w D N I=>qce _ _ _ rfl (I.inv.val 3 (D 3 rfl)) ⟨(I.inv.val 6 (D 6 rfl)),Ext.refl _⟩
 ·exact eV hE fun L v w D N I=>⟨(I.inv.val 7 (D 7 rfl)),Ext.refl _⟩
 ·exact qan hE rfl rfl rfl rfl (fun u h=>h) fun L v w D N I=>⟨rfl,Ext.refl _⟩
 ·exact qan hE rfl rfl rfl rfl (fun u h=>h) fun L v w D N I=>qiw _ rfl rfl (I.inv.val 9 (D 9 rfl)) hc3 hcut ⟨rfl,Ext.refl _⟩
 ·exact qan hE rfl rfl rfl rfl (fun u h=>h) fun L v w D N I=>qc6 _ _ rfl _ _ _ 32 _ (I.inv.val 10 (D 10 rfl)) u22 (by decide) ⟨rfl,Ext.refl _⟩
 ·exact qan hE rfl rfl rfl rfl (fun u h=>h) fun L v w D N I=>qf4 32 (hrS.ext (hx.trans I.inv.keep.to_ext)) hl3 _ rfl (I.inv.val 11 (D 11 rfl)) ldK
 ·exact qan hE rfl rfl rfl rfl (fun u h=>h) fun L v w D N I=>gLow _ _ rfl rfl (qaf (qai (hlow w) (ar1 (I.inv.val 12 (D 12 rfl)))))
 ·exact qan hE rfl rfl rfl rfl (fun u h=>h) fun L v w D N I=>qhq _ _ rfl (I.inv.val 13 (D 13 rfl)) ⟨rfl,Ext.refl _⟩
 ·exact eV hE fun L v w D N I=>qce _ _ _ rfl (I.inv.val 8 (D 8 rfl)) ⟨(I.inv.val 14 (D 14 rfl)),Ext.refl _⟩
 intro L v2 W2 hL hIE
 have hI:=hIE.inv
 have hxr:=hI.keep.to_ext
 replace hx:=hx.trans hxr
 have hs_24_1 : (v2 15) = .bool false:=hI.val 15 (hL 15 (by decide))
 clear hI hIE hL hE L hxr
 simp only [putP,Act.put,zA,zB,zC,hs_24_1]
 go_upto_region 3 with fail
 have hok : TrsOk [] W2.heap.size ([(tk (some 17) 0 22 (some 18) (sz 32) (fun u=>u = .agg (qab (C))))] : List Trk):=⟨by simp [tk],by simp [tk],by simp [tk],by simp [tk]⟩
 have hE : ∀ p ∈ ([(7,slE 23 (fun g cs u=>u = .slice (some ⟨g,0,none⟩) 2 2∧cs = [.slice (some adK) 32 c1,.slice A2 n2 c2]))] : List (Nat × (Value→World→Prop))),qck [22] p.2:=by
  simp only [zD,zE,zF,zG,zH]
  exact qds rfl
 refine qag (InvE [22] [(7,slE 23 (fun g cs u=>u = .slice (some ⟨g,0,none⟩) 2 2∧cs = [.slice (some adK) 32 c1,.slice A2 n2 c2]))] [] (fun j u=>match j with | 0=>u = .slice (some adK) 32 c1 | 1=>u = .pointer (some adK) | 2=>u = .agg (qab (lf key 0)) | 3=>u = .slice A3 64 c3 | 4=>u = .slice A3 32 c3 | 5=>u = .slice (some adK) 32 c1 | 6=>u = .slice A2 n2 c2 | 8=>u = .agg (qab (D)) | 9=>u = .slice A3 64 c3 | 10=>u = .slice (some adS) 32 (c3 - 32) | 11=>u = .pointer (some adS) | 12=>u = .agg (qab (lf g 32)) | 13=>u = .tuple #[.agg (qab C),.nilIface] | 14=>u = .tuple #[.agg (qab C),.nilIface] | 15=>u = .agg (qab (C)) | 16=>u = .nilIface | 19=>u = .nilIface | _=>True) [(tk (some 17) 0 22 (some 18) (sz 32) (fun u=>u = .agg (qab (C))))] W2) qva [(26,0),(27,1),(28,2),(29,3),(30,4),(31,5),(32,6),(33,7),(34,8),(35,9),(36,10),(37,11),(38,12),(39,13),(25,14),(40,15),(41,16),(7,17),(8,19)] 50 (by kernel_rfl) rfl (by kernel_rfl) (InvE.start (Inv.start hok (by simp))) ⟨?_,?_,?_,?_,?_,?_,?_,?_,?_,?_,?_,?_,?_,?_,?_,?_,?_,?_,?_,?_,trivial⟩ ?_
 ·exact eV hE fun L v w D N I=>⟨rfl,Ext.refl _⟩
 ·exact eV hE fun L v w D N I=>qc6 _ _ rfl _ _ _ 32 _ (I.inv.val 0 (D 0 rfl)) u22 (by decide) ⟨rfl,Ext.refl _⟩
 ·exact eV hE fun L v w D N I=>qf4 0 (hrK0.ext (hx.trans I.inv.keep.to_ext)) hl1 _ rfl (I.inv.val 1 (D 1 rfl)) ldK
 ·exact eV hE fun L v w D N I=>⟨rfl,Ext.refl _⟩
 ·exact eV hE fun L v w D N I=>qph _ rfl rfl (I.inv.val 3 (D 3 rfl)) hc3 ⟨rfl,Ext.refl _⟩
 ·exact eV hE fun L v w D N I=>⟨rfl,Ext.refl _⟩
 ·exact eV hE fun L v w D N I=>⟨rfl,Ext.refl _⟩
 ·exact qgr 0 hE rfl rfl rfl rfl (fun _=>trivial) fun L v w D N I=>qjz _ _ rfl (I.inv.val 5 (D 5 rfl)) (I.inv.val 6 (D 6 rfl)) ⟨⟨_,_,Row.alloc w [.slice (some adK) 32 c1,.slice A2 n2 c2] _,rfl,rfl⟩,qaa _ _⟩
 ·exact eV hE fun L v w D N I=>by obtain ⟨g,cs,hrg,e,hc⟩:=(I.at 0 rfl (D 7 rfl));subst hc;exact gDig _ _ rfl rfl (qaf (qai (hD w _ hrg (hx.trans I.inv.keep.to_ext)) (ar2 (I.inv.val 4 (D 4 rfl)) e)))
 ·exact eV hE fun L v w D N I=>⟨rfl,Ext.refl _⟩
 ·exact eV hE fun L v w D N I=>qiw _ rfl rfl (I.inv.val 9 (D 9 rfl)) hc3 hcut ⟨rfl,Ext.refl _⟩
 ·exact eV hE fun L v w D N I=>qc6 _ _ rfl _ _ _ 32 _ (I.inv.val 10 (D 10 rfl)) u22 (by decide) ⟨rfl,Ext.refl _⟩
 ·exact eV hE fun L v w D N I=>qf4 32 (hrS.ext (hx.trans I.inv.keep.to_ext)) hl3 _ rfl (I.inv.val 11 (D 11 rfl)) ldK
 ·exact eV hE fun L v w D N I=>gChk _ _ rfl rfl (qaf (qai (hchk w) (ar3 (I.inv.val 2 (D 2 rfl)) (I.inv.val 8 (D 8 rfl)) (I.inv.val 12 (D 12 rfl)))))
 ·exact eV hE fun L v w D N I=>⟨(I.inv.val 13 (D 13 rfl)),Ext.refl _⟩
 ·exact eV hE fun L v w D N I=>qa9 _ _ _ rfl (I.inv.val 14 (D 14 rfl)) _ rfl ⟨rfl,Ext.refl _⟩
 ·exact eV hE fun L v w D N I=>qa9 _ _ _ rfl (I.inv.val 14 (D 14 rfl)) _ rfl ⟨rfl,Ext.refl _⟩
 ·exact qb3 0 hE rfl rfl rfl rfl rfl rfl hok fun L v w D I=>al_B rfl fun c h=>⟨trivial,rfl,c,rfl,qa5 c h⟩
 ·exact qd2 0 17 hE rfl rfl rfl rfl rfl rfl rfl rfl hok fun L v w D I n cs hb hR ho=>st_B hR (qaq ho) _ _ rfl hb (I.inv.val 15 (D 15 rfl)) fun _ c a b k=>⟨trivial,k,c,a,b⟩
 ·exact eV hE fun L v w D N I=>⟨(I.inv.val 16 (D 16 rfl)),Ext.refl _⟩
 intro L v3 W3 hL hIE
 have hI:=hIE.inv
 obtain ⟨b9,hb_b9,lo_b9,R_b9⟩:=hI.made 0 rfl (hL 17 (by decide)) (hL 18 (by decide))
 have hxr:=hI.keep.to_ext
 replace hx:=hx.trans hxr
 have hs_8_3 : (v3 19) = .nilIface:=hI.val 19 (hL 19 (by decide))
 clear hI hIE hL hE L hok hxr
 simp only [putP,Act.put,zA,zB,zC,hb_b9,hs_8_3]
 go_upto_region 4 with fail
 have hE:=hE0 []
 refine qag (InvE [] [] [] (fun j u=>match j with | 0=>u = .nilIface | 1=>u = .bool true | 2=>u = .bool true | 3=>u = .slice (some ⟨b9,0,none⟩) 32 32 | 4=>u = .slice A3 64 c3 | 5=>u = .slice A3 32 c3 | 6=>u = .bool (qao C == g.take 32) | 7=>u = .bool (qao C == g.take 32) | 8=>u = .bool (qao C == g.take 32) | _=>True) [] W3) qvb [(42,0),(43,1),(44,2),(45,3),(46,4),(47,5),(48,6),(49,7),(6,8)] 50 (by kernel_rfl) rfl (by kernel_rfl) (InvE.start (Inv.start ⟨by simp,by simp,by simp,by simp⟩ (by simp))) ⟨?_,?_,?_,?_,?_,?_,?_,?_,?_,trivial⟩ ?_
 ·exact eV hE fun L v w D N I=>⟨rfl,Ext.refl _⟩
 ·exact eV hE fun L v w D N I=>qmc _ _ rfl (I.inv.val 0 (D 0 rfl)) rfl ⟨rfl,Ext.refl _⟩
 ·exact eV hE fun L v w D N I=>⟨(I.inv.val 1 (D 1 rfl)),Ext.refl _⟩
 ·exact qan hE rfl rfl rfl rfl (fun u h=>h) fun L v w D N I=>sl32 _ rfl rfl ⟨rfl,Ext.refl _⟩
 ·exact qan hE rfl rfl rfl rfl (fun u h=>h) fun L v w D N I=>⟨rfl,Ext.refl _⟩
 ·exact qan hE rfl rfl rfl rfl (fun u h=>h) fun L v w D N I=>qph _ rfl rfl (I.inv.val 4 (D 4 rfl)) hc3 ⟨rfl,Ext.refl _⟩
 ·exact qan hE rfl rfl rfl rfl (fun u h=>h) fun L v w D N I=>gEqu _ _ rfl rfl (qaf (qai (qn6 _ 32 32 (qao C) _ 32 c3 (g.take 32) w (qau _) (rd_B (R_b9.keep0 I.inv.keep)) hg32 (hrR.ext (hx.trans I.inv.keep.to_ext))) (ar2 (I.inv.val 3 (D 3 rfl)) (I.inv.val 5 (D 5 rfl)))))
 ·exact eV hE fun L v w D N I=>qbi _ _ _ rfl (I.inv.val 2 (D 2 rfl)) ⟨(I.inv.val 6 (D 6 rfl)),Ext.refl _⟩
 ·exact eV hE fun L v w D N I=>⟨(I.inv.val 7 (D 7 rfl)),Ext.refl _⟩
 intro L v4 W4 hL hIE
 have hI:=hIE.inv
 replace R_b9:=R_b9.keep0 hI.keep
 have hxr:=hI.keep.to_ext
 replace hx:=hx.trans hxr
 have hs_6_4 : (v4 8) = .bool (qao C == g.take 32):=hI.val 8 (hL 8 (by decide))
 clear hI hIE hL hE L hxr
 simp only [putP,Act.put,zA,zB,zC,hs_6_4]
 go_wp2
 go_ret
 rw [hres]
 exact ⟨rfl,hx⟩
theorem ver_e (adK : Addr) (c1 : Nat) (A2 : Option Addr) (n2 c2 : Nat) (A3 : Option Addr) (c3 : Nat) (adS : Addr) (S : Nat→UInt8) (key t g : List UInt8) (w : World)
  (hc3 : 64 ≤ c3) (hcut : cutA A3 32 c3 1 = some adS) (hg : g.length = 64) (hS : lf g 32 = S) (hrS : Rd w (some adS) ((g.map bv).drop 32)) (hlo : V (lf g 32) < ordN) (hk : key.length = 32) (hc1 : 32 ≤ c1) (hrK : Rd w (some adK) (key.map bv)) (ht : t.length = n2) (hc2 : n2 ≤ c2) (hrT : Rd w A2 (t.map bv)) (hrR : Rd w A3 ((g.take 32).map bv)) (bnd : n2 ≤ 4900000) (hT : Tab64 w) (hP : decP (lf key 0) = none) :
  Calls Tryz.prog 11 #[.slice (some adK) 32 c1,.slice A2 n2 c2,.slice A3 64 c3] w fun e w'=>e = .returned (.bool (qlt (decP (lf key 0)) (sDig (g.take 32 ++ (key ++ t))) g))∧Ext w w':=by
 subst hS
 have hl3 : 32 + 32 ≤ g.length:=by omega
 have h1 : decide (((32 : Nat) : Int) ≠ 32) = false:=rfl
 have h3 : decide (((64 : Nat) : Int) ≠ 64) = false:=rfl
 have hlow : ∀ w' : World,Calls Tryz.prog 26 #[.agg (qab (lf g 32))] w' fun e w2=>e = .returned (.bool true)∧Ext w' w2:=fun w'=>by
  have:=ql7 (lf g 32) w'
  rwa [qqo,decide_eq_true hlo] at this
 have hl1 : 0 + 32 ≤ key.length:=by omega
 have hg32 : (g.take 32).length = 32:=by simp [hg]
 have hrK0 : Rd w (some adK) ((key.map bv).drop 0):=hrK
 have hD : ∀ (w' : World) (gg : Nat),Row w' gg 23 [.slice (some adK) 32 c1,.slice A2 n2 c2]→Ext w w'→Calls Tryz.prog 16 #[.slice A3 32 c3,.slice (some ⟨gg,0,none⟩) 2 2] w' fun e w2=>e = .returned (.agg (qab (sDig (g.take 32 ++ (key ++ t)))))∧Ext w' w2:=fun w' gg h1 hx=>sdig2 A3 32 c3 _ gg (some adK) 32 c1 key A2 n2 c2 t w' hg32 (by omega) (hrR.ext hx) h1 hk hc1 (hrK.ext hx) ht hc2 (hrT.ext hx) (by omega) (hT.ext hx)
 generalize sDig (g.take 32 ++ (key ++ t)) = D at *
 have hchk : ∀ w' : World,Calls Tryz.prog 27 #[.agg (qab (lf key 0)),.agg (qab D),.agg (qab (lf g 32))] w' fun e w2=>e = .returned (.tuple #[.agg (qab fun _=>0),qa8])∧Ext w' w2:=fun w'=>qot (qk6 hP) w'
 have hres : qlt (decP (lf key 0)) D g = false:=by rw [hP];rfl
 go_enter Tryz.func11,Tryz.ntmps11
 go_upto_region 0 with fail
 have hx : Ext w w:=Ext.refl w
 have hE:=hE0 []
 refine qac (InvE [] [] [] (fun j u=>match j with | 0=>u = .bool false | _=>True) [] w) qu7 [(6,0)] 50 rfl (by kernel_rfl) (InvE.start0 (Inv.start0 ⟨by simp,by simp,by simp,by simp⟩ (by simp))) ⟨?_,trivial⟩ ?_
 ·exact eV hE fun L v w D N I=>⟨rfl,Ext.refl _⟩
 intro L v1 W1 hL hIE
 have hI:=hIE.inv
 have hxr:=hI.keep.to_ext
 replace hx:=hx.trans hxr
 clear hI hIE hL hE L hxr
 simp only [putP,Act.put,zA,zB,zC]
 go_upto_region 1 with fail
 have hE:=hE0 []
 refine qac (InvE [] [] [] (fun j u=>match j with | 0=>u = .slice (some adK) 32 c1 | 1=>u = .int .i64 ((32 : Nat) : Int) | 2=>u = .bool false | 3=>u = .bool false | 4=>u = .slice A3 64 c3 | 5=>u = .int .i64 ((64 : Nat) : Int) | 6=>u = .bool false | 7=>u = .bool false | 8=>u = .bool false | 9=>u = .slice A3 64 c3 | 10=>u = .slice (some adS) 32 (c3 - 32) | 11=>u = .pointer (some adS) | 12=>u = .agg (qab (lf g 32)) | 13=>u = .bool true | 14=>u = .bool false | 15=>u = .bool false | _=>True) [] W1) qu8 [(9,0),(10,1),(11,2),(12,3),(13,4),(14,5),(15,6),(16,7),(17,8),(18,9),(19,10),(20,11),(21,12),(22,13),(23,14),(24,15)] 50 rfl (by kernel_rfl) (InvE.start0 (Inv.start0 ⟨by simp,by simp,by simp,by simp⟩ (by simp))) ⟨?_,?_,?_,?_,?_,?_,?_,?_,?_,?_,?_,?_,?_,?_,?_,?_,trivial⟩ ?_
 ·exact eV hE fun L v w D N I=>⟨rfl,Ext.refl _⟩
 ·exact eV hE fun L v w D N I=>qdl _ rfl (I.inv.val 0 (D 0 rfl)) ⟨rfl,Ext.refl _⟩
 ·exact eV hE fun L v w D N I=>qdk _ _ _ _ 32 _ rfl (I.inv.val 1 (D 1 rfl)) rfl h1 ⟨rfl,Ext.refl _⟩
 ·exact eV hE fun L v w D N I=>⟨(I.inv.val 2 (D 2 rfl)),Ext.refl _⟩
 ·exact qan hE rfl rfl rfl rfl (fun u h=>h) fun L v w D N I=>⟨rfl,Ext.refl _⟩
 ·exact qan hE rfl rfl rfl rfl (fun u h=>h) fun L v w D N I=>qdl _ rfl (I.inv.val 4 (D 4 rfl)) ⟨rfl,Ext.refl _⟩
 ·exact qan hE rfl rfl rfl rfl (fun u h=>h) fun L v w D N I=>qdk _ _ _ _ 64 _ rfl (I.inv.val 5 (D 5 rfl)) rfl h3 ⟨rfl,Ext.refl _⟩
 ·exact eV hE fun L v w D N I=>qce _ _ _ rfl (I.inv.val 3 (D 3 rfl)) ⟨(I.inv.val 6 (D 6 rfl)),Ext.refl _⟩
 ·exact eV hE fun L v w D N I=>⟨(I.inv.val 7 (D 7 rfl)),Ext.refl _⟩
 ·exact qan hE rfl rfl rfl rfl (fun u h=>h) fun L v w D N I=>⟨rfl,Ext.refl _⟩
 ·exact qan hE rfl rfl rfl rfl (fun u h=>h) fun L v w D N I=>qiw _ rfl rfl (I.inv.val 9 (D 9 rfl)) hc3 hcut ⟨rfl,Ext.refl _⟩
 ·exact qan hE rfl rfl rfl rfl (fun u h=>h) fun L v w D N I=>qc6 _ _ rfl _ _ _ 32 _ (I.inv.val 10 (D 10 rfl)) u22 (by decide) ⟨rfl,Ext.refl _⟩
 ·exact qan hE rfl rfl rfl rfl (fun u h=>h) fun L v w D N I=>qf4 32 (hrS.ext (hx.trans I.inv.keep.to_ext)) hl3 _ rfl (I.inv.val 11 (D 11 rfl)) ldK
 ·exact qan hE rfl rfl rfl rfl (fun u h=>h) fun L v w D N I=>gLow _ _ rfl rfl (qaf (qai (hlow w) (ar1 (I.inv.val 12 (D 12 rfl)))))
 ·exact qan hE rfl rfl rfl rfl (fun u h=>h) fun L v w D N I=>qhq _ _ rfl (I.inv.val 13 (D 13 rfl)) ⟨rfl,Ext.refl _⟩
 ·exact eV hE fun L v w D N I=>qce _ _ _ rfl (I.inv.val 8 (D 8 rfl)) ⟨(I.inv.val 14 (D 14 rfl)),Ext.refl _⟩
 intro L v2 W2 hL hIE
 have hI:=hIE.inv
 have hxr:=hI.keep.to_ext
 replace hx:=hx.trans hxr
 have hs_24_1 : (v2 15) = .bool false:=hI.val 15 (hL 15 (by decide))
 clear hI hIE hL hE L hxr
 simp only [putP,Act.put,zA,zB,zC,hs_24_1]
 go_upto_region 3 with fail
 have hok : TrsOk [] W2.heap.size ([(tk (some 17) 0 22 (some 18) (sz 32) (fun u=>u = .agg (qab fun _=>0)))] : List Trk):=⟨by simp [tk],by simp [tk],by simp [tk],by simp [tk]⟩
 have hE : ∀ p ∈ ([(7,slE 23 (fun g cs u=>u = .slice (some ⟨g,0,none⟩) 2 2∧cs = [.slice (some adK) 32 c1,.slice A2 n2 c2]))] : List (Nat × (Value→World→Prop))),qck [22] p.2:=by
  simp only [zD,zE,zF,zG,zH]
  exact qds rfl
 refine qag (InvE [22] [(7,slE 23 (fun g cs u=>u = .slice (some ⟨g,0,none⟩) 2 2∧cs = [.slice (some adK) 32 c1,.slice A2 n2 c2]))] [] (fun j u=>match j with | 0=>u = .slice (some adK) 32 c1 | 1=>u = .pointer (some adK) | 2=>u = .agg (qab (lf key 0)) | 3=>u = .slice A3 64 c3 | 4=>u = .slice A3 32 c3 | 5=>u = .slice (some adK) 32 c1 | 6=>u = .slice A2 n2 c2 | 8=>u = .agg (qab (D)) | 9=>u = .slice A3 64 c3 | 10=>u = .slice (some adS) 32 (c3 - 32) | 11=>u = .pointer (some adS) | 12=>u = .agg (qab (lf g 32)) | 13=>u = .tuple #[.agg (qab fun _=>0),qa8] | 14=>u = .tuple #[.agg (qab fun _=>0),qa8] | 15=>u = .agg (qab fun _=>0) | 16=>u = qa8 | 19=>u = qa8 | _=>True) [(tk (some 17) 0 22 (some 18) (sz 32) (fun u=>u = .agg (qab fun _=>0)))] W2) qva [(26,0),(27,1),(28,2),(29,3),(30,4),(31,5),(32,6),(33,7),(34,8),(35,9),(36,10),(37,11),(38,12),(39,13),(25,14),(40,15),(41,16),(7,17),(8,19)] 50 (by kernel_rfl) rfl (by kernel_rfl) (InvE.start (Inv.start hok (by simp))) ⟨?_,?_,?_,?_,?_,?_,?_,?_,?_,?_,?_,?_,?_,?_,?_,?_,?_,?_,?_,?_,trivial⟩ ?_
 ·exact eV hE fun L v w D N I=>⟨rfl,Ext.refl _⟩
 ·exact eV hE fun L v w D N I=>qc6 _ _ rfl _ _ _ 32 _ (I.inv.val 0 (D 0 rfl)) u22 (by decide) ⟨rfl,Ext.refl _⟩
 ·exact eV hE fun L v w D N I=>qf4 0 (hrK0.ext (hx.trans I.inv.keep.to_ext)) hl1 _ rfl (I.inv.val 1 (D 1 rfl)) ldK
 ·exact eV hE fun L v w D N I=>⟨rfl,Ext.refl _⟩
 ·exact eV hE fun L v w D N I=>qph _ rfl rfl (I.inv.val 3 (D 3 rfl)) hc3 ⟨rfl,Ext.refl _⟩
 ·exact eV hE fun L v w D N I=>⟨rfl,Ext.refl _⟩
 ·exact eV hE fun L v w D N I=>⟨rfl,Ext.refl _⟩
 ·exact qgr 0 hE rfl rfl rfl rfl (fun _=>trivial) fun L v w D N I=>qjz _ _ rfl (I.inv.val 5 (D 5 rfl)) (I.inv.val 6 (D 6 rfl)) ⟨⟨_,_,Row.alloc w [.slice (some adK) 32 c1,.slice A2 n2 c2] _,rfl,rfl⟩,qaa _ _⟩
 ·exact eV hE fun L v w D N I=>by obtain ⟨g,cs,hrg,e,hc⟩:=(I.at 0 rfl (D 7 rfl));subst hc;exact gDig _ _ rfl rfl (qaf (qai (hD w _ hrg (hx.trans I.inv.keep.to_ext)) (ar2 (I.inv.val 4 (D 4 rfl)) e)))
 ·exact eV hE fun L v w D N I=>⟨rfl,Ext.refl _⟩
 ·exact eV hE fun L v w D N I=>qiw _ rfl rfl (I.inv.val 9 (D 9 rfl)) hc3 hcut ⟨rfl,Ext.refl _⟩
 ·exact eV hE fun L v w D N I=>qc6 _ _ rfl _ _ _ 32 _ (I.inv.val 10 (D 10 rfl)) u22 (by decide) ⟨rfl,Ext.refl _⟩
 ·exact eV hE fun L v w D N I=>qf4 32 (hrS.ext (hx.trans I.inv.keep.to_ext)) hl3 _ rfl (I.inv.val 11 (D 11 rfl)) ldK
 ·exact eV hE fun L v w D N I=>gChk _ _ rfl rfl (qaf (qai (hchk w) (ar3 (I.inv.val 2 (D 2 rfl)) (I.inv.val 8 (D 8 rfl)) (I.inv.val 12 (D 12 rfl)))))
 ·exact eV hE fun L v w D N I=>⟨(I.inv.val 13 (D 13 rfl)),Ext.refl _⟩
 ·exact eV hE fun L v w D N I=>qa9 _ _ _ rfl (I.inv.val 14 (D 14 rfl)) _ rfl ⟨rfl,Ext.refl _⟩
 ·exact eV hE fun L v w D N I=>qa9 _ _ _ rfl (I.inv.val 14 (D 14 rfl)) _ rfl ⟨rfl,Ext.refl _⟩
 ·exact qb3 0 hE rfl rfl rfl rfl rfl rfl hok fun L v w D I=>al_B rfl fun c h=>⟨trivial,rfl,c,rfl,qa5 c h⟩
 ·exact qd2 0 17 hE rfl rfl rfl rfl rfl rfl rfl rfl hok fun L v w D I n cs hb hR ho=>st_B hR (qaq ho) _ _ rfl hb (I.inv.val 15 (D 15 rfl)) fun _ c a b k=>⟨trivial,k,c,a,b⟩
 ·exact eV hE fun L v w D N I=>⟨(I.inv.val 16 (D 16 rfl)),Ext.refl _⟩
 intro L v3 W3 hL hIE
 have hI:=hIE.inv
 obtain ⟨b9,hb_b9,lo_b9,R_b9⟩:=hI.made 0 rfl (hL 17 (by decide)) (hL 18 (by decide))
 have hxr:=hI.keep.to_ext
 replace hx:=hx.trans hxr
 have hs_8_3 : (v3 19) = qa8:=hI.val 19 (hL 19 (by decide))
 clear hI hIE hL hE L hok hxr
 simp only [putP,Act.put,zA,zB,zC,hb_b9,hs_8_3]
 go_upto_region 4 with fail
 have hE:=hE0 []
 refine qag (InvE [] [] [] (fun j u=>match j with | 0=>u = qa8 | 1=>u = .bool false | 2=>u = .bool false | 3=>u = undef | 4=>u = undef | 5=>u = undef | 6=>u = undef | 7=>u = .bool false | 8=>u = .bool false | _=>True) [] W3) qvb [(42,0),(43,1),(44,2),(45,3),(46,4),(47,5),(48,6),(49,7),(6,8)] 50 (by kernel_rfl) rfl (by kernel_rfl) (InvE.start (Inv.start ⟨by simp,by simp,by simp,by simp⟩ (by simp))) ⟨?_,?_,?_,?_,?_,?_,?_,?_,?_,trivial⟩ ?_
 ·exact eV hE fun L v w D N I=>⟨rfl,Ext.refl _⟩
 ·exact eV hE fun L v w D N I=>qig _ _ rfl (I.inv.val 0 (D 0 rfl)) rfl ⟨rfl,Ext.refl _⟩
 ·exact eV hE fun L v w D N I=>⟨(I.inv.val 1 (D 1 rfl)),Ext.refl _⟩
 ·exact qb6 hE rfl rfl rfl rfl rfl (fun u h=>h)
 ·exact qb6 hE rfl rfl rfl rfl rfl (fun u h=>h)
 ·exact qb6 hE rfl rfl rfl rfl rfl (fun u h=>h)
 ·exact qb6 hE rfl rfl rfl rfl rfl (fun u h=>h)
 ·exact eV hE fun L v w D N I=>qce _ _ _ rfl (I.inv.val 2 (D 2 rfl)) ⟨rfl,Ext.refl _⟩
 ·exact eV hE fun L v w D N I=>⟨(I.inv.val 7 (D 7 rfl)),Ext.refl _⟩
 intro L v4 W4 hL hIE
 have hI:=hIE.inv
 replace R_b9:=R_b9.keep0 hI.keep
 have hxr:=hI.keep.to_ext
 replace hx:=hx.trans hxr
 have hs_6_4 : (v4 8) = .bool false:=hI.val 8 (hL 8 (by decide))
 clear hI hIE hL hE L hxr
 simp only [putP,Act.put,zA,zB,zC,hs_6_4]
 go_wp2
 go_ret
 rw [hres]
 exact ⟨rfl,hx⟩
theorem qhs {A : Option Addr} {c : Nat} {g : List UInt8} {w : World} (hg : g.length = 64) (hr : Rd w A (g.map bv)) (hc : 64 ≤ c) : ∃ ad,cutA A 32 c 1 = some ad∧Rd w (some ad) ((g.map bv).drop 32):=by
 have h1:=hr.cutA_ (l:=32) (m:=c) (by rw [List.length_map];omega)
 obtain ⟨ad,e,_⟩:=h1.at_ (k:=0) (by simp [hg])
 exact ⟨ad,e,e ▸ h1⟩
theorem qpb (P : P7) (A1 : Option Addr) (c1 : Nat) (key : List UInt8) (A2 : Option Addr) (n2 c2 : Nat) (t : List UInt8) (A3 : Option Addr) (c3 : Nat) (g : List UInt8) (w : World) (hk : key.length = 32) (hc1 : 32 ≤ c1) (hr1 : Rd w A1 (key.map bv)) (ht : t.length = n2) (hc2 : n2 ≤ c2) (hr2 : Rd w A2 (t.map bv)) (hg : g.length = 64) (hc3 : 64 ≤ c3) (hr3 : Rd w A3 (g.map bv)) (bnd : n2 ≤ 4900000) (hT : Tab64 w) (hlo : V (lf g 32) < ordN) (hP : decP (lf key 0) = some P) :
  Calls Tryz.prog 11 #[.slice A1 32 c1,.slice A2 n2 c2,.slice A3 64 c3] w fun e w'=>e = .returned (.bool (sVer key t g))∧Ext w w':=by
 unfold sVer
 rw [if_pos hk,if_pos hg,if_pos hlo]
 obtain ⟨adS,hcut,hrS⟩:=qhs hg hr3 hc3
 obtain ⟨adK,e,_⟩:=hr1.at_ (k:=0) (by simp [hk])
 subst e
 have hrR : Rd w A3 ((g.take 32).map bv):=by rw [List.map_take];exact hr3.take_ 32
 exact ver_d adK c1 A2 n2 c2 A3 c3 P adS _ key t g w hc3 hcut hg rfl hrS hlo hk hc1 hr1 ht hc2 hr2 hrR bnd hT hP
theorem sver_any (A1 : Option Addr) (n1 c1 : Nat) (key : List UInt8) (A2 : Option Addr) (n2 c2 : Nat) (t : List UInt8) (A3 : Option Addr) (n3 c3 : Nat) (g : List UInt8) (w : World) (hk : key.length = n1) (hc1 : n1 ≤ c1) (hr1 : Rd w A1 (key.map bv)) (ht : t.length = n2) (hc2 : n2 ≤ c2) (hr2 : Rd w A2 (t.map bv)) (hg : g.length = n3) (hc3 : n3 ≤ c3) (hr3 : Rd w A3 (g.map bv)) (bnd : n2 ≤ 4900000) (hT : Tab64 w) :
  Calls Tryz.prog 11 #[.slice A1 n1 c1,.slice A2 n2 c2,.slice A3 n3 c3] w fun e w'=>e = .returned (.bool (sVer key t g))∧Ext w w':=by
 unfold sVer
 by_cases h1 : key.length = 32
 ·rw [if_pos h1]
  have e1 : n1 = 32:=hk.symm.trans h1
  by_cases h3 : g.length = 64
  ·rw [if_pos h3]
   have e3 : n3 = 64:=hg.symm.trans h3
   subst e1
   subst e3
   obtain ⟨adS,hcut,hrS⟩:=qhs h3 hr3 hc3
   by_cases hlo : V (lf g 32) < ordN
   ·rw [if_pos hlo]
    obtain ⟨adK,e,_⟩:=hr1.at_ (k:=0) (by simp [h1])
    subst e
    have hrR : Rd w A3 ((g.take 32).map bv):=by rw [List.map_take];exact hr3.take_ 32
    cases hP : decP (lf key 0) with
    | some P=>rw [← hP];exact ver_d adK c1 A2 n2 c2 A3 c3 P adS _ key t g w hc3 hcut h3 rfl hrS hlo h1 hc1 hr1 ht hc2 hr2 hrR bnd hT hP
    | none=>rw [← hP];exact ver_e adK c1 A2 n2 c2 A3 c3 adS _ key t g w hc3 hcut h3 rfl hrS hlo h1 hc1 hr1 ht hc2 hr2 hrR bnd hT hP
   ·rw [if_neg hlo]
    exact ver_c A1 c1 A2 n2 c2 A3 c3 adS _ g w hc3 hcut h3 rfl hrS hlo
  ·rw [if_neg h3]
   exact ver_b A1 n1 c1 A2 n2 c2 A3 n3 c3 w e1 (by omega)
 ·rw [if_neg h1]
  exact ver_a A1 n1 c1 A2 n2 c2 A3 n3 c3 w (by omega)
end Go.Proofs.YtgeihelkkhjjaaaGreatDoor
