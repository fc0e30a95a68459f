/-
  Texts of the lemmas below the claim, put together: SgA SgT SgM.
-/
import Derived.Test.YtgeihelkkhjjaaaGreatDoorKCrvF
import Derived.Test.YtgeihelkkhjjaaaGreatDoorKSgH
import Derived.Test.YtgeihelkkhjjaaaGreatDoorKSgX
set_option linter.unusedSimpArgs false
set_option linter.unusedVariables false
set_option maxRecDepth 100000
set_option maxHeartbeats 16000000
section
namespace Go.Cv
open Go.RowKit Go.Cv.Pr Go.Cv.Grp
def ladq (xN yN : Nat) : List Bool→Nat→Nat→Nat→Nat→Bool
 | [],X,Y,Z,T=>X % (2 ^ 255 - 19) == xN * Z % (2 ^ 255 - 19) && Y % (2 ^ 255 - 19) == yN * Z % (2 ^ 255 - 19)
 | b :: l,X,Y,Z,T=>fc (dbX X Y Z T) fun X1=>fc (dbY X Y Z T) fun Y1=>fc (dbZ X Y Z T) fun Z1=>fc (dbT X Y Z T) fun T1 =>
  if b then fc (plX X1 Y1 Z1 T1) fun X2=>fc (plY X1 Y1 Z1 T1) fun Y2=>fc (plZ X1 Y1 Z1 T1) fun Z2=>fc (plT X1 Y1 Z1 T1) fun T2=>ladq xN yN l X2 Y2 Z2 T2 else ladq xN yN l X1 Y1 Z1 T1
theorem qqy (xN yN : Nat) (b : Bool) (l : List Bool) (X Y Z T : Nat) : ∃ X1 Y1 Z1 T1,(∀ P,RepN X Y Z T P→RepN X1 Y1 Z1 T1 (P.add P))∧ladq xN yN (b :: l) X Y Z T = if b then ladq xN yN l (plX X1 Y1 Z1 T1) (plY X1 Y1 Z1 T1) (plZ X1 Y1 Z1 T1) (plT X1 Y1 Z1 T1) else ladq xN yN l X1 Y1 Z1 T1 :=
 ⟨dbX X Y Z T,dbY X Y Z T,dbZ X Y Z T,dbT X Y Z T,fun _ h=>h.db,by rw [ladq];simp only [fc_eq]⟩
theorem qkx {n : Nat} [NeZero n] (a b z : Fin n) (h : a * z = b * z) : z * a = z * b:=by grind
theorem ladq_end {xN yN X Y Z T : Nat} {P : P7} (h : RepN X Y Z T P) (hl : (X % (2 ^ 255 - 19) == xN * Z % (2 ^ 255 - 19) && Y % (2 ^ 255 - 19) == yN * Z % (2 ^ 255 - 19)) = true) : P.x = tf xN∧P.y = tf yN:=by
 simp only [Bool.and_eq_true,beq_iff_eq] at hl
 have h1 : tf X = tf xN * tf Z:=by rw [← qda];exact qhf.2 hl.1
 have h2 : tf Y = tf yN * tf Z:=by rw [← qda];exact qhf.2 hl.2
 obtain ⟨z,x,y,t⟩:=h
 exact ⟨C7.cancel z (qkx _ _ _ (x.symm.trans h1)),C7.cancel z (qkx _ _ _ (y.symm.trans h2))⟩
theorem ladq_is (xN yN : Nat) (l : List Bool) : ∀ (k X Y Z T : Nat),RepN X Y Z T (Pt.mul k B7)→ladq xN yN l X Y Z T = true→(Pt.mul (qik l k) B7).x = tf xN∧(Pt.mul (qik l k) B7).y = tf yN:=by
 induction l with
 | nil =>
  intro k X Y Z T h hl
  exact ladq_end h hl
 | cons b l ih =>
  intro k X Y Z T h hl
  obtain ⟨X1,Y1,Z1,T1,hd,he⟩:=qqy xN yN b l X Y Z T
  have h1:=hd _ h
  rw [qcq] at h1
  rw [he] at hl
  rw [qlb]
  cases b
  ·exact ih _ _ _ _ _ h1 hl
  ·have h2:=h1.pl
   rw [← Pt.mul_succ] at h2
   exact ih _ _ _ _ _ h2 hl
theorem qqi (l : List Bool) (k xN yN : Nat) (hb : qik l 0 = k) (hq : ladq xN yN l 0 1 1 0 = true) : (Pt.mul k B7).x = tf xN∧(Pt.mul k B7).y = tf yN:=by
 have h : RepN 0 1 1 0 (Pt.mul 0 B7):=by
  show Rep (tf 0) (tf 1) (tf 1) (tf 0) (Pt.zero C7)
  rw [qcw,qgj]
  exact Rep.zero C7
 have:=ladq_is xN yN l 0 _ _ _ _ h hq
 rwa [hb] at this
def bitsOf (n k : Nat) : List Bool:=(List.range n).map fun i=>(k >>> (n - 1 - i)) % 2 == 1
def ex_a : Nat:=36144925721603087658594284515452164870581325872720374094707712194495455132720
def ex_ax : Nat:=38815646466658113194383306759739515082307681141926459231621296960732224964046
def ex_ay : Nat:=11903303657706407974989296177215005343713679411332034699907763981919547054807
theorem qrh : qik (bitsOf 255 ex_a) 0 = ex_a:=by decide +kernel
theorem ex_a_lad : ladq ex_ax ex_ay (bitsOf 255 ex_a) 0 1 1 0 = true:=by decide +kernel
theorem qrg : (Pt.mul ex_a B7).x = tf ex_ax∧(Pt.mul ex_a B7).y = tf ex_ay:=qqi _ _ _ _ qrh ex_a_lad
def ex_r : Nat:=2015312323900227545039973048451112962192803170366412514267238242679089760755
def ex_rx : Nat:=44370630452101398467924320556439323233869374150616132215183787387252341590058
def ex_ry : Nat:=38448863731492799660668882834560725606410712239157980760146247592118262650597
theorem qrd : qik (bitsOf 255 ex_r) 0 = ex_r:=by decide +kernel
theorem ex_r_lad : ladq ex_rx ex_ry (bitsOf 255 ex_r) 0 1 1 0 = true:=by decide +kernel
theorem qrc : (Pt.mul ex_r B7).x = tf ex_rx∧(Pt.mul ex_r B7).y = tf ex_ry:=qqi _ _ _ _ qrd ex_r_lad
def ex_m : Nat:=4189425255243104265380274593999275942286358786625561434025412373999949950602
def ex_mx : Nat:=55836919626705939050223673677676937652315303921015868654532477003577713816576
def ex_my : Nat:=19550695539563398274221655657565148279821633958587248489001529432411895781736
theorem qrf : qik (bitsOf 255 ex_m) 0 = ex_m:=by decide +kernel
theorem ex_m_lad : ladq ex_mx ex_my (bitsOf 255 ex_m) 0 1 1 0 = true:=by decide +kernel
theorem qre : (Pt.mul ex_m B7).x = tf ex_mx∧(Pt.mul ex_m B7).y = tf ex_my:=qqi _ _ _ _ qrf ex_m_lad
end Go.Cv
end
section
namespace Go.Cv
open Go.RowKit Go.Cv.Pr Go.Cv.Grp Go.Cv.Hash
def qbe : Nat→UInt8:=fun i=>([157,97,177,157,239,253,90,96,186,132,74,244,146,236,44,196,68,73,197,105,123,50,105,25,112,59,172,3,28,174,127,96] : List UInt8).getD i 0
def exHl : List UInt8:=[53,124,131,134,79,40,51,203,66,122,46,241,192,10,1,60,253,255,39,104,217,128,192,163,165,32,240,6,144,77,233,15,155,79,10,254,40,11,116,106,119,134,132,231,84,66,80,32,87,183,71,58,3,240,143,150,245,163,142,146,135,224,31,143]
def exMl : List UInt8:=[155,79,10,254,40,11,116,106,119,134,132,231,84,66,80,32,87,183,71,58,3,240,143,150,245,163,142,146,135,224,31,143]
def exKl : List UInt8:=[215,90,152,1,130,177,10,183,213,75,254,211,201,100,7,58,14,225,114,243,218,166,35,37,175,2,26,104,247,7,81,26]
def exRl : List UInt8:=[229,86,67,0,195,96,172,114,144,134,226,204,128,110,130,138,132,135,127,30,184,229,217,116,216,115,224,101,34,73,1,85]
def exSl : List UInt8:=[229,86,67,0,195,96,172,114,144,134,226,204,128,110,130,138,132,135,127,30,184,229,217,116,216,115,224,101,34,73,1,85,95,184,130,21,144,163,59,172,198,30,57,112,28,249,180,107,210,91,245,240,89,91,190,36,101,81,65,67,142,122,16,11]
def exd1 : List UInt8:=[182,177,156,216,224,66,111,89,131,250,17,45,137,161,67,170,151,218,184,188,93,235,141,91,98,83,201,40,182,82,114,244,4,64,152,194,169,144,3,156,222,91,106,72,24,223,11,251,110,64,220,93,238,84,36,128,50,150,35,35,231,1,53,45]
def exd2 : List UInt8:=[39,113,6,43,107,83,111,231,255,189,218,3,32,195,130,123,3,93,241,13,40,77,243,240,130,34,240,77,188,167,164,194,14,241,91,220,152,138,34,199,32,116,17,55,124,51,242,172,9,177,232,106,4,98,52,40,55,104,238,123,160,60,14,159]
def exd3 : List UInt8:=[158,160,243,89,203,235,244,70,47,55,100,199,166,28,120,236,128,179,96,149,52,157,175,64,13,11,68,36,167,86,226,5,67,166,203,185,175,137,57,45,198,26,103,8,15,128,113,203,241,130,59,214,99,117,76,29,169,195,188,198,22,5,86,177]
def ex_k : Nat:=1958233733501237659471134851339390337284068724042047466985993338226439154310
def qom : Nat:=3522795203402148482764146148954277926717685080406457998596202582178711798453
def ex_S : Nat:=5004556735901913393272427758925840403246877222315506387332009764265656498271
theorem exSeed_l : qao qbe = [157,97,177,157,239,253,90,96,186,132,74,244,146,236,44,196,68,73,197,105,123,50,105,25,112,59,172,3,28,174,127,96]:=by decide +kernel
theorem exH : qbu qbe = exHl:=by
 unfold qbu
 rw [exSeed_l]
 decide +kernel
theorem exN : V (sNum exHl) = ex_a:=by decide +kernel
theorem exM : qao (lf exHl 32) = exMl:=by decide +kernel
theorem ex_e1 : qao (encF (tf ex_ax) (tf ex_ay)) = exKl:=by decide +kernel
theorem ex_e2 : qao (encF (tf ex_rx) (tf ex_ry)) = exRl:=by decide +kernel
theorem exK : qao (sKey (sNum exHl)) = exKl:=by
 unfold sKey
 rw [exN,qrg.1,qrg.2]
 exact ex_e1
theorem exh1 : Hash.hash64 (exMl ++ []) = exd1:=by decide +kernel
theorem exh2 : Hash.hash64 (exRl ++ (exKl ++ [])) = exd2:=by decide +kernel
theorem exh3 : Hash.hash64 (exRl ++ (exKl ++ [1])) = exd3:=by decide +kernel
theorem exn1 : bsum (fun j=>exd1.getD j 0) 64 % ordN = ex_r:=by decide +kernel
theorem exn2 : bsum (fun j=>exd2.getD j 0) 64 % ordN = ex_k:=by decide +kernel
theorem exn3 : bsum (fun j=>exd3.getD j 0) 64 % ordN = qom:=by decide +kernel
theorem exD1 : sDig (exMl ++ []) = nb ex_r:=by unfold sDig;rw [exh1,exn1]
theorem exD2 : sDig (exRl ++ (exKl ++ [])) = nb ex_k:=by unfold sDig;rw [exh2,exn2]
theorem exD3 : sDig (exRl ++ (exKl ++ [1])) = nb qom:=by unfold sDig;rw [exh3,exn3]
theorem exV1 : V (nb ex_r) = ex_r:=V_nb (by decide +kernel)
theorem exV2 : V (nb ex_k) = ex_k:=V_nb (by decide +kernel)
theorem exV3 : V (nb qom) = qom:=V_nb (by decide +kernel)
theorem exR : qao (sKey (nb ex_r)) = exRl:=by
 unfold sKey
 rw [exV1,qrc.1,qrc.2]
 exact ex_e2
theorem exS_ : (ex_k * ex_a + ex_r) % ordN = ex_S:=by decide +kernel
theorem exSig_ : exRl ++ qao (nb ex_S) = exSl:=by decide +kernel
theorem exSig : sSig (sNum exHl) (lf exHl 32) [] = exSl:=by
 unfold sSig
 rw [exM,exD1,exR,exK,exD2,exN,exV1,exV2,exS_]
 exact exSig_
theorem exm_ : (ex_S + (ordN - 1) * ex_a * qom) % ordN = ex_m:=by decide +kernel
theorem exVS : V (lf exSl 32) = ex_S:=by decide +kernel
theorem ex_e3 : (qao (encF (tf ex_mx) (tf ex_my)) == exSl.take 32) = false:=by decide +kernel
theorem exR' : exSl.take 32 = exRl:=by decide +kernel
theorem exLow : ex_S < ordN:=by decide +kernel
theorem exNot : sVer exKl [1] exSl = false:=by
 unfold sVer
 rw [if_pos (by decide),if_pos (by decide),if_pos (by rw [exVS];exact exLow),exR',exD3]
 have hP : decP (lf exKl 0) = some (Pt.mul ex_a B7):=by
  rw [← exK,qg4 (qdz (sKey (sNum exHl)))]
  unfold sKey
  rw [qj1,exN]
 rw [hP]
 show (qao (sChk (Pt.mul ex_a B7) (nb qom) (lf exSl 32)) == exSl.take 32) = false
 unfold sChk
 rw [exVS,exV3,check_is,exm_,qre.1,qre.2]
 exact ex_e3
theorem sSig_low (a m : Nat→UInt8) (t : List UInt8) : V (lf (sSig a m t) 32) < ordN:=by
 have hl : ∀ i,i < 32→lf (sSig a m t) 32 i = nb ((V (sDig (qao (sKey (sDig (qao m ++ t))) ++ (qao (sKey a) ++ t))) * V a + V (sDig (qao m ++ t))) % ordN) i:=fun i hi=>by
  have h2:=qdz (nb ((V (sDig (qao (sKey (sDig (qao m ++ t))) ++ (qao (sKey a) ++ t))) * V a + V (sDig (qao m ++ t))) % ordN)) i hi
  unfold sSig lf at *
  rw [Nat.zero_add] at h2
  rw [← h2]
  simp only [List.getD_eq_getElem?_getD]
  rw [List.getElem?_append_right (by rw [qau];omega),qau,Nat.add_sub_cancel_left]
 rw [qmk hl,V_nb (Nat.lt_trans (Nat.mod_lt _ (by decide)) (by decide))]
 exact Nat.mod_lt _ (by decide)
theorem qhr : exKl.getD 0 0 = 215∧exKl.getD 31 0 = 26∧exSl.getD 0 0 = 229∧exSl.getD 63 0 = 11:=by decide +kernel
end Go.Cv
end
section
namespace Go.Cv
open Go Go.RowKit
section
variable {P : Program} {E : Value→World→Prop} {ns : List Nat} {VF : Nat→Value→Prop} {w0 : World} {pl : List Plan} {a0 : Act} {i : Nat} {o : Oper}
end
end Go.Cv
namespace Go.Proofs.YtgeihelkkhjjaaaGreatDoor
open Go.RowKit Go.Cv Go.Cv.Pr Go.Cv.Grp Go.Cv.Hash
theorem RV_newB (w : World) (f : Nat→UInt8) (T : TypeId) : RV (w.alloc (.cells (qab f) T)) w.heap.size T (fun u=>u = .agg (qab f)):=by
 have h:=Row.alloc w (qab f).toList T
 rw [Array.toArray_toList] at h
 exact ⟨(qab f).toList,h,by rw [Array.toArray_toList]⟩
section
variable {w : World} {o : Oper} {ev : Operand→Value} {R : Value→World→Prop} {n : Nat} {f g : Nat→UInt8} {l : List UInt8} {A : Option Addr} {c : Nat}
theorem give_bsb (ho : o.op = .buildSlice 23 1 #[(0,.const (.int .u8 1))]) (hc : ev (.const (.int .u8 1)) = .int .u8 1) (h : R (.slice (some ⟨w.heap.size,0,none⟩) 1 1) (w.alloc (.cells (List.toArray [.int .u8 1]) 5))) : qak Tryz.prog R ((execOp ev o).run Tryz.prog w):=by
 unfold execOp
 simp only [ho,List.map_toArray,List.map_cons,List.map_nil,hc]
 go_simp
 exact h
theorem g_eq8 (p q : Operand) (t : TypeId) (b : UInt8) (z : Int) (ho : o.op = .binOp .eql 5 p q t) (hx : ev p = .int .u8 (n8 b)) (hy : ev q = .int .u8 z) (hb : n8 b = z) (h : R (.bool true) w) : qak Tryz.prog R ((execOp ev o).run Tryz.prog w):=by
 subst hb
 unfold execOp
 simp only [ho,hx,hy]
 go_simp
 exact h
theorem ld_Hb (k : Nat) (hk : k < 64) (hl : l.length = 64) (hR : RV w n 26 (fun u=>u = h64 l)) (p : Operand) (ho : o.op = .load 5 p) (hx : ev p = .pointer (some ⟨n,k * 1,none⟩)) (h : ∀ u,u = .int .u8 (n8 (l.getD k 0))→R u w) : qak Tryz.prog R ((execOp ev o).run Tryz.prog w):=by
 obtain ⟨cs,h1,h2⟩:=hR
 rw [hL_of h2] at h1
 refine qdu _ p ho n (k * 1) hx h1 (.int .u8 (n8 (l.getD k 0))) ?_ _ u5_ rfl (h _ rfl)
 rw [Nat.mul_one,List.getElem?_map,List.getElem?_eq_getElem (by omega),List.getD_eq_getElem?_getD,List.getElem?_eq_getElem (by omega)]
 rfl
end
theorem seed_x : (#[.int .u8 157,.int .u8 97,.int .u8 177,.int .u8 157,.int .u8 239,.int .u8 253,.int .u8 90,.int .u8 96,.int .u8 186,.int .u8 132,.int .u8 74,.int .u8 244,.int .u8 146,.int .u8 236,.int .u8 44,.int .u8 196,.int .u8 68,.int .u8 73,.int .u8 197,.int .u8 105,.int .u8 123,.int .u8 50,.int .u8 105,.int .u8 25,.int .u8 112,.int .u8 59,.int .u8 172,.int .u8 3,.int .u8 28,.int .u8 174,.int .u8 127,.int .u8 96] : Array Value) = qab qbe:=by
 rw [qc5]
 kernel_rfl
def qr4 : List Plan:=[⟨[],[]⟩]
def qr5 : List Plan:=[⟨[],[]⟩,⟨[0],[(1,0)]⟩]
theorem qmv (w : World) :
  Calls Tryz.prog 13 #[] w fun e w'=>e = .returned (.agg (qab qbe))∧Ext w w':=by
 go_enter Tryz.func13,Tryz.ntmps13
 go_upto_region 0 with fail
 have hx : Ext w w:=Ext.refl w
 have hok : TrsOk [] w.heap.size ([(tk (some 0) 0 22 (none) (sz 32) (fun _=>True))] : List Trk):=⟨by simp [tk],by simp [tk],by simp [tk],by simp [tk]⟩
 have hE:=hE0 []
 refine qac (InvE [] [] [] (fun _ _=>True) [(tk (some 0) 0 22 (none) (sz 32) (fun _=>True))] w) qr4 [(0,0)] 2 rfl (by kernel_rfl) (InvE.start0 (Inv.start0 hok (by simp))) ⟨?_,trivial⟩ ?_
 ·exact qb3 0 hE rfl rfl rfl rfl rfl rfl hok fun L v w D I=>al_B rfl fun c h=>⟨trivial,rfl,c,rfl,qa5 c h⟩
 intro L v1 W1 hL hIE
 have hI:=hIE.inv
 obtain ⟨r,hb_r,lo_r,R_r⟩:=hI.made0 0 rfl (hL 0 (by decide))
 have bs_r:=Nat.le_trans hx.size lo_r
 have lt_r:=R_r.lt
 have hxr:=hI.keep.to_ext
 replace hx:=hx.trans hxr
 clear hI hIE hL hE L hok hxr
 simp only [putP,Act.put,zA,zB,zC,hb_r]
 go_upto_region 1 with fail
 have hok : TrsOk [r] W1.heap.size ([(tk (none) r 22 (some 1) (sz 32) (fun u=>u = .agg (qab (qbe))))] : List Trk):=⟨by simp [tk,R_r.lt],by simp [tk],by simp [tk],by simp [tk]⟩
 have hE : ∀ p ∈ ([] : List (Nat × (Value→World→Prop))),qck [22] p.2:=fun p hp=>by cases hp
 refine qac (InvE [22] [] [r] (fun j u=>match j with | 0=>u = .agg (qab (qbe)) | _=>True) [(tk (none) r 22 (some 1) (sz 32) (fun u=>u = .agg (qab (qbe))))] W1) qr5 [(1,0)] 2 rfl (by kernel_rfl) (InvE.start0 (Inv.start0 hok (by
   simp only [zD,zE,zF,zG,zH]
   exact fun _=>R_r))) ⟨?_,?_,trivial⟩ ?_
 ·exact eV hE fun L v w D N I=>qej _ _ rfl #[.int .u8 157,.int .u8 97,.int .u8 177,.int .u8 157,.int .u8 239,.int .u8 253,.int .u8 90,.int .u8 96,.int .u8 186,.int .u8 132,.int .u8 74,.int .u8 244,.int .u8 146,.int .u8 236,.int .u8 44,.int .u8 196,.int .u8 68,.int .u8 73,.int .u8 197,.int .u8 105,.int .u8 123,.int .u8 50,.int .u8 105,.int .u8 25,.int .u8 112,.int .u8 59,.int .u8 172,.int .u8 3,.int .u8 28,.int .u8 174,.int .u8 127,.int .u8 96] (by kernel_rfl) ⟨congrArg Value.agg seed_x,Ext.refl _⟩
 ·exact qhb 0 hE rfl rfl rfl rfl rfl rfl rfl hok fun L v w D I cs hR ho=>st_B hR (qaq ho) _ _ rfl rfl (I.inv.val 0 (D 0 rfl)) fun _ c a b k=>⟨trivial,k,c,a,b⟩
 intro L v2 W2 hL hIE
 have hI:=hIE.inv
 replace R_r:=hI.new 0 rfl (hL 1 (by decide))
 replace lt_r:=ltk lt_r hI.keep.size
 replace hx:=hx.keep1 hI.keep bs_r
 clear hI hIE hL hE L hok
 simp only [putP,Act.put,zA,zB,zC]
 go_wp2
 refine bodyPost_ret (qcs rfl _ R_r rfl) rfl ⟨rfl,hx⟩
end Go.Proofs.YtgeihelkkhjjaaaGreatDoor
end
