/-
  Texts of the lemmas below the claim, put together: SgI SgRv.
-/
import Derived.Test.YtgeihelkkhjjaaaGreatDoorKSgU
import Derived.Test.YtgeihelkkhjjaaaGreatDoorKTim
import Derived.Test.YtgeihelkkhjjaaaGreatDoorKSgX
import Derived.BigQuiet
set_option linter.unusedSimpArgs false
set_option linter.unusedVariables false
set_option maxRecDepth 20000
set_option maxHeartbeats 16000000
section
namespace Go.Proofs.YtgeihelkkhjjaaaGreatDoor
open Go.RowKit Go.Cv Go.Cv.Pr Go.Cv.Grp Go.Cv.Hash
section
variable {w : World} {o : Oper} {ev : Operand→Value} {R : Value→World→Prop}
theorem gRBase : GC 36 := gcOf Tryz.func36 (by kernel_rfl) (by kernel_rfl)
theorem gRIn : GC 35 := gcOf Tryz.func35 (by kernel_rfl) (by kernel_rfl)
theorem qq8 : GC 34 := gcOf Tryz.func34 (by kernel_rfl) (by kernel_rfl)
theorem gRNeg : GC 37 := gcOf Tryz.func37 (by kernel_rfl) (by kernel_rfl)
theorem gRAdd : GC 40 := gcOf Tryz.func40 (by kernel_rfl) (by kernel_rfl)
theorem gROut : GC 39 := gcOf Tryz.func39 (by kernel_rfl) (by kernel_rfl)
theorem gREnc : GC 38 := gcOf Tryz.func38 (by kernel_rfl) (by kernel_rfl)
theorem al_N (ho : o.op = .alloc 57) : qak Tryz.prog (fun u w'=>True∧u = .pointer (some ⟨w.heap.size,0,none⟩)∧∃ cs : List Value,w' = w.alloc (.cells cs.toArray 57)∧(.agg cs.toArray : Value) = .agg #[.slice none 0 0,.slice none 0 0,.slice none 0 0]) ((execOp ev o).run Tryz.prog w):=by
 unfold execOp
 rw [ho]
 go_simp
 exact ⟨rfl,rfl⟩
end
theorem RVP_new (w : World) (f g : Nat→UInt8) : RV (w.alloc (.cells (pc f g) 49)) w.heap.size 49 (fun u=>u = .agg (pc f g)):=⟨pcL f g,Row.alloc w (pcL f g) 49,rfl⟩
theorem rinP (P : P7) (w : World) : Calls Tryz.prog 35 #[.agg (pc (fb P.x) (fb P.y))] w fun e w'=>∃ v,e = .returned v∧NP w' v P∧Ext w w':=rin7 (qbw _) (qbw _) w
theorem rnegP (P : P7) (w : World) : Calls Tryz.prog 37 #[.agg (pc (fb P.x) (fb P.y))] w fun e w'=>e = .returned (.agg (pc (fb P.neg.x) (fb P.neg.y)))∧Ext w w':=by
 have:=rneg (fb P.x) (fb P.y) w
 rw [qbw,qbw] at this
 exact this
def qv3 : List Plan:=[⟨[],[]⟩,⟨[0],[(47,0)]⟩,⟨[],[]⟩,⟨[2],[(49,2)]⟩,⟨[],[]⟩,⟨[0,1,2,3,4],[(48,1),(50,3),(51,4)]⟩,⟨[],[]⟩,⟨[0,1,2,3,4,5,6],[(52,5),(11,6)]⟩]
def qv4 : List Plan:=[⟨[],[]⟩,⟨[],[]⟩,⟨[1],[(54,1)]⟩,⟨[1,2],[(55,2)]⟩,⟨[],[]⟩,⟨[0,1,2,3,4],[(53,0),(56,3),(57,4)]⟩,⟨[],[]⟩,⟨[0,1,2,3,4,5,6],[(58,5),(12,6)]⟩]
def qv2 : List Plan:=[⟨[],[]⟩,⟨[],[]⟩,⟨[],[]⟩,⟨[0,1,2],[(59,0),(60,1),(61,2)]⟩,⟨[0,1,2,3],[(62,3)]⟩,⟨[0,1,2,3,4],[(63,4)]⟩,⟨[],[]⟩,⟨[0,1,2,3,4,5,6],[(64,5),(13,6)]⟩]
theorem rver_d (P : P7) (adK : Addr) (c1 : Nat) (key : List UInt8) (A2 : Option Addr) (n2 c2 : Nat) (t : List UInt8) (A3 : Option Addr) (c3 : Nat) (g : List UInt8) (w : World) (hk : key.length = 32) (hc1 : 32 ≤ c1) (hr1 : Rd w (some adK) (key.map bv)) (ht : t.length = n2) (hr2 : Rd w A2 (t.map bv)) (hg : g.length = 64) (hc3 : 64 ≤ c3) (hr3 : Rd w A3 (g.map bv)) (bnd : n2 ≤ 4800000) (hlo : V (lf g 32) < ordN) (hP : decP (lf key 0) = some P) :
  Calls Tryz.prog 12 #[.slice (some adK) 32 c1,.slice A2 n2 c2,.slice A3 64 c3] w fun e w'=>e = .returned (.bool (qlt (decP (lf key 0)) (sDig (g.take 32 ++ (key ++ t))) g))∧Ext w w':=by
 have hrR : Rd w A3 ((g.take 32).map bv):=by rw [List.map_take];exact hr3.tk 32
 obtain ⟨adS,hcut,hrS⟩:=qhs hg hr3 hc3
 have hrS2 : Rd w (some adS) ((qao (lf g 32)).map bv):=by
  rw [qnu g 32 (by omega),List.map_take,List.map_drop]
  exact hrS.tk 32
 have hgd : (g.drop 32).length = 32:=by simp [hg]
 have har : ∀ w',Ext w w'→Calls Tryz.prog 25 #[.slice (some adK) 32 c1] w' fun e w2=>e = .returned (.agg (qab (lf key 0)))∧Ext w' w2:=fun w' hx=>qjm (some adK) 32 c1 key w' hk (Nat.le_refl _) (hr1.ext hx)
 have hdc : ∀ w',Calls Tryz.prog 29 #[.agg (qab (lf key 0))] w' fun e w2=>e = .returned (.tuple #[.agg (pc (fb P.x) (fb P.y)),.bool true])∧Ext w' w2:=fun w'=>by
  have:=qjl (lf key 0) w'
  rwa [(qek hP).1,(qek hP).2,qhl] at this
 have hof : ∀ w',Ext w w'→Calls Tryz.prog 31 #[.slice (some adS) 32 (c3 - 32)] w' fun e w2=>∃ v,e = .returned v∧Num w2 v (V (lf g 32)) 11∧Ext w' w2:=fun w' hx=>by
  refine (qko (some adS) 32 (c3 - 32) (g.drop 32) w' hgd (by rw [List.map_drop];exact hrS.ext hx) (by decide)).mono ?_
  rintro e w2 ⟨v,rfl,hv,hx2⟩
  have e1 : bsum (Dig.lb (g.drop 32)) 32 = V (lf g 32):=qb8 32 fun j hj=>by
   unfold Dig.lb lf
   simp [List.getD_eq_getElem?_getD,List.getElem?_drop]
  rw [e1] at hv
  exact ⟨v,rfl,hv.short (Nat.lt_of_lt_of_le (V_lt _) (by decide)),hx2⟩
 have hcm : ∀ w' v1 v2,Num w' v1 (V (lf g 32)) 11→Num w' v2 ordN 11→Calls Tryz.prog 30 #[v1,v2] w' fun e w2=>e = .returned (.int .i64 (-1))∧Ext w' w2:=fun w' v1 v2 h1 h2=>(qc7 w' v1 v2 _ _ h1 h2).mono fun e w2 ⟨c,he,hc,hx⟩=>by
  rcases hc with ⟨_,rfl⟩ | ⟨h,_⟩ | ⟨h,_⟩
  ·exact ⟨he,hx⟩
  ·omega
  ·omega
 have hj : ∀ w',Ext w w'→Calls Tryz.prog 23 #[.slice A3 32 c3,.slice (some adK) 32 c1,.slice A2 n2 c2] w' fun e w2=>∃ D q,e = .returned (.slice D (64 + n2) q)∧64 + n2 ≤ q∧Rd w2 D ((g.take 32 ++ (key ++ t)).map bv)∧Ext w' w2:=fun w' hx=>by
  have:=qpv A3 32 c3 (g.take 32) (some adK) 32 c1 key A2 n2 c2 t w' (by simp [hg]) (hrR.ext hx) hk (hr1.ext hx) ht (hr2.ext hx) (by omega)
  rwa [List.append_assoc] at this
 have hs : ∀ w' (D : Option Addr) q,64 + n2 ≤ q→Rd w' D ((g.take 32 ++ (key ++ t)).map bv)→Calls Tryz.prog 22 #[.slice D (64 + n2) q] w' fun e w2=>∃ g1 q,e = .returned (.slice (some ⟨g1,0,none⟩) 64 q)∧Rd w2 (some ⟨g1,0,none⟩) ((Hash.hash64 (g.take 32 ++ (key ++ t))).map bv)∧Ext w' w2:=fun w' D q hq h=>rsum_any D _ q _ w' (by simp [hg,hk,ht];omega) hq h (by omega)
 have hsc : ∀ w' (g1 q : Nat),Rd w' (some ⟨g1,0,none⟩) ((Hash.hash64 (g.take 32 ++ (key ++ t))).map bv)→Calls Tryz.prog 21 #[.slice (some ⟨g1,0,none⟩) 64 q] w' fun e w2=>e = .returned (.agg (qab (sDig (g.take 32 ++ (key ++ t)))))∧Ext w' w2:=fun w' g1 q h=>qlv _ q _ w' (qg2 _) h
 generalize Hash.hash64 (g.take 32 ++ (key ++ t)) = H1 at *
 generalize sDig (g.take 32 ++ (key ++ t)) = D1 at *
 have hen : ∀ w',Calls Tryz.prog 38 #[.agg (pc (fb ((Pt.mul (V (lf g 32)) B7).add (Pt.mul (V D1) P.neg)).x) (fb ((Pt.mul (V (lf g 32)) B7).add (Pt.mul (V D1) P.neg)).y))] w' fun e w2=>e = .returned (.agg (qab (sChk P D1 (lf g 32))))∧Ext w' w2:=fun w'=>by
  have:=renc (fb ((Pt.mul (V (lf g 32)) B7).add (Pt.mul (V D1) P.neg)).x) (fb ((Pt.mul (V (lf g 32)) B7).add (Pt.mul (V D1) P.neg)).y) w'
  rwa [qbw,qbw] at this
 have hres : qlt (decP (lf key 0)) D1 g = (qao (sChk P D1 (lf g 32)) == g.take 32):=by rw [hP];rfl
 rw [hres]
 clear hres hP hrS hr1 hr2 hrR ht hlo
 generalize sChk P D1 (lf g 32) = C at *
 obtain ⟨b9,hb9⟩ : ∃ b,b = (qao C == g.take 32):=⟨_,rfl⟩
 rw [← hb9]
 have hB9:=Lib.hid hb9
 clear hb9
 have hc3I : (64 : Int) ≤ (c3 : Int):=by omega
 go_enter Tryz.func12,Tryz.ntmps12
 go_upto_region 8 with (first
  | (go_at_call 25;(with_reducible refine (har _ (Ext.refl _)).mono ?_);rintro e w1 ⟨rfl,hx1⟩)
  | (go_at_call 29;(with_reducible refine (hdc _).mono ?_);rintro e w2 ⟨rfl,hx2⟩;have hRp:=RVP_new w2 (fb P.x) (fb P.y);have hxp:=(hx1.trans hx2).trans (qaa w2 (.cells (pc (fb P.x) (fb P.y)) 49)))
  | (go_at_call 31;(with_reducible refine (hof _ hxp).mono ?_);rintro e w3 ⟨v3,rfl,hv3,hx3⟩)
  | (go_at_call 32;(with_reducible refine (qgv _).mono ?_);rintro e w4 ⟨v4,rfl,hv4,hx4⟩;replace hv3:=hv3.ext hx4)
  | (go_at_call 30;(with_reducible refine (hcm _ _ _ hv3 hv4).mono ?_);rintro e w5 ⟨rfl,hx5⟩;have hxq:=hxp.trans ((hx3.trans hx4).trans hx5))
  | (go_at_call 23;(with_reducible refine (hj _ hxq).mono ?_);rintro e w6 ⟨D6,q6,rfl,hq6,hr6,hx6⟩)
  | (go_at_call 22;(with_reducible refine (hs _ _ _ hq6 hr6).mono ?_);rintro e w7 ⟨g7,q7,rfl,hr7,hx7⟩)
  | (go_at_call 21;(with_reducible refine (hsc _ _ _ hr7).mono ?_);rintro e w8 ⟨rfl,hx8⟩;have hRk:=RV_newB w8 D1 22;have hxk:=(hx6.trans (hx7.trans hx8)).trans (qaa w8 (.cells (qab D1) 22)))
  | (go_at_call 33;(with_reducible refine (nD _).mono ?_);rintro e W0 ⟨vd,rfl,hd,hx9⟩))
 have R_p:=hRp.ext (((hx3.trans hx4).trans hx5).trans (hxk.trans hx9))
 have R_k9:=hRk.ext hx9
 have hx:=hxq.trans (hxk.trans hx9)
 generalize w2.heap.size = p at *
 generalize w8.heap.size = k9 at *
 clear hRp hRk hx1 hx2 hx3 hx4 hx5 hx6 hx7 hx8 hx9 hxp hxq hxk hv3 hv4 hr6 hr7 hq6 har hdc hof hcm hj hs hsc
 have hok : TrsOk [] W0.heap.size ([(tk (some 6) 0 57 (none) (fun u=>u = .agg #[.slice none 0 0,.slice none 0 0,.slice none 0 0]) (fun _=>True))] : List Trk):=⟨by simp [tk],by simp [tk],by simp [tk],by simp [tk]⟩
 have hE : ∀ p ∈ ([(3,fun u w=>NP w u (B7)),(5,fun u w=>NP w u (Pt.mul (V (lf g 32)) B7))] : List (Nat × (Value→World→Prop))),qck [] p.2:=by
  simp only [zD,zE,zF,zG,zH]
  exact ⟨⟨fun u w w1 h hx=>NP.ext h hx,fun u w w1 n T cs h hr hT=>(by cases hT)⟩,⟨fun u w w1 h hx=>NP.ext h hx,fun u w w1 n T cs h hr hT=>(by cases hT)⟩⟩
 refine qag (InvF 7 (fun v w'=>∃ n,v 6 = .pointer (some ⟨n,0,none⟩)∧RN w' n (Pt.mul (V (lf g 32)) B7)∧W0.heap.size ≤ n∧Ext W0 w') (InvE [] [(3,fun u w=>NP w u (B7)),(5,fun u w=>NP w u (Pt.mul (V (lf g 32)) B7))] [] (fun j u=>match j with | 0=>u = .slice A3 64 c3 | 1=>u = .slice (some adS) 32 (c3 - 32) | 2=>u = .agg (pc (fb B7.x) (fb B7.y)) | 4=>u = vd | _=>True) [(tk (some 6) 0 57 (none) (fun u=>u = .agg #[.slice none 0 0,.slice none 0 0,.slice none 0 0]) (fun _=>True))] W0)) qv3 [(47,0),(48,1),(49,2),(50,3),(51,4),(52,5),(11,6)] 77 (by kernel_rfl) rfl (by kernel_rfl) (InvF.start (InvE.start (Inv.start hok (by simp)))) ⟨?_,?_,?_,?_,?_,?_,?_,?_,trivial⟩ ?_
 ·exact qb9 rfl rfl rfl (eV hE fun L v w D N I=>⟨rfl,Ext.refl _⟩)
 ·exact qb9 rfl rfl rfl (eV hE fun L v w D N I=>qiw _ rfl rfl (I.inv.val 0 (D 0 rfl)) hc3 hcut ⟨rfl,Ext.refl _⟩)
 ·exact qb9 rfl rfl rfl (eV hE fun L v w D N I=>gRBase _ _ rfl rfl (qaf (rbase w)))
 ·exact qb9 rfl rfl rfl (qgr 0 hE rfl rfl rfl rfl (fun _=>trivial) fun L v w D N I=>gRIn _ _ rfl rfl (qai (rinP B7 w) (ar1 (I.inv.val 2 (D 2 rfl)))))
 ·exact qb9 rfl rfl rfl (eV hE fun L v w D N I=>⟨rfl,Ext.refl _⟩)
 ·exact qb9 rfl rfl rfl (qgr 1 hE rfl rfl rfl rfl (fun _=>trivial) fun L v w D N I=>qq8 _ _ rfl rfl (qai (rtimes (hrS2.ext (hx.trans I.inv.keep.to_ext)) (I.at 0 rfl (D 3 rfl)) (hd.ext I.inv.keep.to_ext)) (ar3 (I.inv.val 1 (D 1 rfl)) rfl (I.inv.val 4 (D 4 rfl)))))
 ·exact qb9 rfl rfl rfl (qb3 0 hE rfl rfl rfl rfl rfl rfl hok fun L v w D I=>al_N rfl)
 ·intro L v w hL hD hC hI
  obtain ⟨hI,hF⟩:=hI.last hL
  refine ⟨fun _=>qak.mono ?_ hF,fun hw=>by cases hw⟩
  have h9:=(hI.at 1 rfl (hD 5 (by decide)))
  rw [show qaj qv3 7 = [(52,5),(11,6)] from rfl]
  obtain ⟨n,cs,hb,lo,hr',-,ho⟩:=hI.inv.row_made (tk (some 6) 0 57 (none) (fun u=>u = .agg #[.slice none 0 0,.slice none 0 0,.slice none 0 0]) (fun _=>True)) (by simp) 6 rfl (hD 6 (by decide))
  have e:=ho (by intro s hs;cases hs)
  injection e with e
  have e2:=congrArg Array.toList e
  simp only at e2
  subst e2
  refine st_N (T:=0) hr' rfl (by simp [noI]) _ _ rfl hb h9 fun w' hr hk=>⟨n,?_,hr,lo,Ext.keep_ hI.inv.keep.to_ext hk (by simpa using lo)⟩
  show setV v 7 _ 6 = _
  rw [qbs (by decide)]
  exact hb
 intro L v1 W1 hL hIE
 have hfin:=hIE.fin (hL 7 (by decide))
 obtain ⟨one,hb_one,R_one,lo_one,hxr⟩:=hfin
 clear hIE hL hE L hok
 replace R_k9:=R_k9.ext hxr
 replace R_p:=R_p.ext hxr
 replace hd:=hd.ext hxr
 replace hx:=hx.trans hxr
 clear hxr
 simp only [putP,Act.put,zA,zB,zC,hb_one]
 go_upto_region 9 with fail
 have hok : TrsOk [] W1.heap.size ([(tk (some 6) 0 57 (none) (fun u=>u = .agg #[.slice none 0 0,.slice none 0 0,.slice none 0 0]) (fun _=>True))] : List Trk):=⟨by simp [tk],by simp [tk],by simp [tk],by simp [tk]⟩
 have hE : ∀ p ∈ ([(3,fun u w=>NP w u (P.neg)),(5,fun u w=>NP w u (Pt.mul (V (D1)) P.neg))] : List (Nat × (Value→World→Prop))),qck [] p.2:=by
  simp only [zD,zE,zF,zG,zH]
  exact ⟨⟨fun u w w1 h hx=>NP.ext h hx,fun u w w1 n T cs h hr hT=>(by cases hT)⟩,⟨fun u w w1 h hx=>NP.ext h hx,fun u w w1 n T cs h hr hT=>(by cases hT)⟩⟩
 refine qag (InvF 7 (fun v w'=>∃ n,v 6 = .pointer (some ⟨n,0,none⟩)∧RN w' n (Pt.mul (V (D1)) P.neg)∧W1.heap.size ≤ n∧Ext W1 w') (InvE [] [(3,fun u w=>NP w u (P.neg)),(5,fun u w=>NP w u (Pt.mul (V (D1)) P.neg))] [] (fun j u=>match j with | 0=>u = .slice (some ⟨k9,0,none⟩) 32 32 | 1=>u = .agg (pc (fb P.x) (fb P.y)) | 2=>u = .agg (pc (fb P.neg.x) (fb P.neg.y)) | 4=>u = vd | _=>True) [(tk (some 6) 0 57 (none) (fun u=>u = .agg #[.slice none 0 0,.slice none 0 0,.slice none 0 0]) (fun _=>True))] W1)) qv4 [(53,0),(54,1),(55,2),(56,3),(57,4),(58,5),(12,6)] 77 (by kernel_rfl) rfl (by kernel_rfl) (InvF.start (InvE.start (Inv.start hok (by simp)))) ⟨?_,?_,?_,?_,?_,?_,?_,?_,trivial⟩ ?_
 ·exact qb9 rfl rfl rfl (eV hE fun L v w D N I=>sl32 _ rfl rfl ⟨rfl,Ext.refl _⟩)
 ·exact qb9 rfl rfl rfl (eV hE fun L v w D N I=>ld_P (R_p.keep0 I.inv.keep) _ rfl rfl ldK)
 ·exact qb9 rfl rfl rfl (eV hE fun L v w D N I=>gRNeg _ _ rfl rfl (qaf (qai (rnegP P w) (ar1 (I.inv.val 1 (D 1 rfl))))))
 ·exact qb9 rfl rfl rfl (qgr 0 hE rfl rfl rfl rfl (fun _=>trivial) fun L v w D N I=>gRIn _ _ rfl rfl (qai (rinP P.neg w) (ar1 (I.inv.val 2 (D 2 rfl)))))
 ·exact qb9 rfl rfl rfl (eV hE fun L v w D N I=>⟨rfl,Ext.refl _⟩)
 ·exact qb9 rfl rfl rfl (qgr 1 hE rfl rfl rfl rfl (fun _=>trivial) fun L v w D N I=>qq8 _ _ rfl rfl (qai (rtimes (rd_B (R_k9.keep0 I.inv.keep)) (I.at 0 rfl (D 3 rfl)) (hd.ext I.inv.keep.to_ext)) (ar3 (I.inv.val 0 (D 0 rfl)) rfl (I.inv.val 4 (D 4 rfl)))))
 ·exact qb9 rfl rfl rfl (qb3 0 hE rfl rfl rfl rfl rfl rfl hok fun L v w D I=>al_N rfl)
 ·intro L v w hL hD hC hI
  obtain ⟨hI,hF⟩:=hI.last hL
  refine ⟨fun _=>qak.mono ?_ hF,fun hw=>by cases hw⟩
  have h9:=(hI.at 1 rfl (hD 5 (by decide)))
  rw [show qaj qv4 7 = [(58,5),(12,6)] from rfl]
  obtain ⟨n,cs,hb,lo,hr',-,ho⟩:=hI.inv.row_made (tk (some 6) 0 57 (none) (fun u=>u = .agg #[.slice none 0 0,.slice none 0 0,.slice none 0 0]) (fun _=>True)) (by simp) 6 rfl (hD 6 (by decide))
  have e:=ho (by intro s hs;cases hs)
  injection e with e
  have e2:=congrArg Array.toList e
  simp only at e2
  subst e2
  refine st_N (T:=0) hr' rfl (by simp [noI]) _ _ rfl hb h9 fun w' hr hk=>⟨n,?_,hr,lo,Ext.keep_ hI.inv.keep.to_ext hk (by simpa using lo)⟩
  show setV v 7 _ 6 = _
  rw [qbs (by decide)]
  exact hb
 intro L v2 W2 hL hIE
 have hfin:=hIE.fin (hL 7 (by decide))
 obtain ⟨two,hb_two,R_two,lo_two,hxr⟩:=hfin
 clear hIE hL hE L hok
 replace R_k9:=R_k9.ext hxr
 replace R_p:=R_p.ext hxr
 replace hd:=hd.ext hxr
 replace R_one:=R_one.ext hxr
 replace hx:=hx.trans hxr
 clear hxr
 simp only [putP,Act.put,zA,zB,zC,hb_two]
 go_upto_region 10 with fail
 have hok : TrsOk [] W2.heap.size ([(tk (some 6) 0 22 (none) (sz 32) (fun _=>True))] : List Trk):=⟨by simp [tk],by simp [tk],by simp [tk],by simp [tk]⟩
 have hE : ∀ p ∈ ([(0,fun u w=>NP w u (Pt.mul (V (lf g 32)) B7)),(1,fun u w=>NP w u (Pt.mul (V (D1)) P.neg)),(3,fun u w=>NP w u ((Pt.mul (V (lf g 32)) B7).add (Pt.mul (V (D1)) P.neg)))] : List (Nat × (Value→World→Prop))),qck [] p.2:=by
  simp only [zD,zE,zF,zG,zH]
  exact ⟨⟨fun u w w1 h hx=>NP.ext h hx,fun u w w1 n T cs h hr hT=>(by cases hT)⟩,⟨fun u w w1 h hx=>NP.ext h hx,fun u w w1 n T cs h hr hT=>(by cases hT)⟩,⟨fun u w w1 h hx=>NP.ext h hx,fun u w w1 n T cs h hr hT=>(by cases hT)⟩⟩
 refine qac (InvF 7 (fun v w'=>∃ n,v 6 = .pointer (some ⟨n,0,none⟩)∧RV w' n 22 (fun u=>u = .agg (qab C))∧W2.heap.size ≤ n∧Ext W2 w') (InvE [] [(0,fun u w=>NP w u (Pt.mul (V (lf g 32)) B7)),(1,fun u w=>NP w u (Pt.mul (V (D1)) P.neg)),(3,fun u w=>NP w u ((Pt.mul (V (lf g 32)) B7).add (Pt.mul (V (D1)) P.neg)))] [] (fun j u=>match j with | 2=>u = vd | 4=>u = .agg (pc (fb ((Pt.mul (V (lf g 32)) B7).add (Pt.mul (V (D1)) P.neg)).x) (fb ((Pt.mul (V (lf g 32)) B7).add (Pt.mul (V (D1)) P.neg)).y)) | 5=>u = .agg (qab (C)) | _=>True) [(tk (some 6) 0 22 (none) (sz 32) (fun _=>True))] W2)) qv2 [(59,0),(60,1),(61,2),(62,3),(63,4),(64,5),(13,6)] 77 rfl (by kernel_rfl) (InvF.start (InvE.start0 (Inv.start0 hok (by simp)))) ⟨?_,?_,?_,?_,?_,?_,?_,?_,trivial⟩ ?_
 ·exact qb9 rfl rfl rfl (qgr 0 hE rfl rfl rfl rfl (fun _=>trivial) fun L v w D N I=>ld_N (R_one.ext I.inv.keep.to_ext) _ rfl rfl fun u h=>⟨h,Ext.refl _⟩)
 ·exact qb9 rfl rfl rfl (qgr 1 hE rfl rfl rfl rfl (fun _=>trivial) fun L v w D N I=>ld_N (R_two.ext I.inv.keep.to_ext) _ rfl rfl fun u h=>⟨h,Ext.refl _⟩)
 ·exact qb9 rfl rfl rfl (eV hE fun L v w D N I=>⟨rfl,Ext.refl _⟩)
 ·exact qb9 rfl rfl rfl (qgr 2 hE rfl rfl rfl rfl (fun _=>trivial) fun L v w D N I=>gRAdd _ _ rfl rfl (qai (radd (I.at 0 rfl (D 0 rfl)) (I.at 1 rfl (D 1 rfl)) (hd.ext I.inv.keep.to_ext)) (ar3 rfl rfl (I.inv.val 2 (D 2 rfl)))))
 ·exact qb9 rfl rfl rfl (eV hE fun L v w D N I=>gROut _ _ rfl rfl (qaf (rout (I.at 2 rfl (D 3 rfl)))))
 ·exact qb9 rfl rfl rfl (eV hE fun L v w D N I=>gREnc _ _ rfl rfl (qaf (qai (hen w) (ar1 (I.inv.val 4 (D 4 rfl))))))
 ·exact qb9 rfl rfl rfl (qb3 0 hE rfl rfl rfl rfl rfl rfl hok fun L v w D I=>al_B rfl fun c h=>⟨trivial,rfl,c,rfl,qa5 c h⟩)
 ·intro L v w hL hD hC hI
  obtain ⟨hI,hF⟩:=hI.last hL
  refine ⟨fun _=>qak.mono ?_ hF,fun hw=>by cases hw⟩
  have h9:=(hI.inv.val 5 (hD 5 (by decide)))
  rw [show qaj qv2 7 = [(64,5),(13,6)] from rfl]
  obtain ⟨n,cs,hb,lo,hr',-,ho⟩:=hI.inv.row_made (tk (some 6) 0 22 (none) (sz 32) (fun _=>True)) (by simp) 6 rfl (hD 6 (by decide))
  have e:=ho (by intro s hs;cases hs)
  refine st_B hr' (qaq e) _ _ rfl hb h9 fun w' cs' hr he hk=>⟨n,?_,⟨cs',hr,he⟩,lo,Ext.keep_ hI.inv.keep.to_ext hk (by simpa using lo)⟩
  show setV v 7 _ 6 = _
  rw [qbs (by decide)]
  exact hb
 intro L v3 W3 hL hIE
 have hfin:=hIE.fin (hL 7 (by decide))
 obtain ⟨bb,hb_bb,R_bb,lo_bb,hxr⟩:=hfin
 clear hIE hL hE L hok
 replace hx:=hx.trans hxr
 clear hxr
 simp only [putP,Act.put,zA,zB,zC,hb_bb]
 go_wp2
 go_loopw [14] (fun t14 wr=>∃ i : Nat,i ≤ 32∧t14 = .int .i64 i∧Hid (∀ j,j < i→C j = g.getD j 0)∧Ext W3 wr) (fun t14 _=>32 - (intOf t14).toNat)
 case atStart=>exact ⟨0,by decide,rfl,Lib.hid (fun j hj=>absurd hj (Nat.not_lt_zero j)),Ext.refl _⟩
 case round =>
  obtain ⟨i,hi,rfl,hpre,hE⟩:=hrel
  by_cases h1 : i < 32
  ·have h1' : (i : Int) < 32:=by omega
   have h1z : (i : Int) < 64:=by omega
   have hgl : i < g.length:=by omega
   have hcc:=(R_bb.ext hE).byte h1
   obtain ⟨ad,rfl,hcell⟩:=(hr3.ext (hx.trans hE)).at_ (k:=i) (by rw [List.length_map];exact hgl)
   rw [List.getElem_map] at hcell
   have hgi : g.getD i 0 = g[i]:=by rw [List.getD_eq_getElem?_getD,List.getElem?_eq_getElem hgl];rfl
   have hne : C i ≠ g[i]→(qao C == g.take 32) = false:=fun h=>by
    rw [Bool.eq_false_iff]
    intro e
    have e2:=congrArg (fun l=>l.getD i 0) (eq_of_beq e)
    have e3:=qdz C i h1
    unfold lf at e3
    rw [Nat.zero_add] at e3
    simp only [e3] at e2
    rw [List.getD_eq_getElem?_getD,List.getElem?_take,if_pos h1,← List.getD_eq_getElem?_getD,hgi] at e2
    exact h e2
   have hstep : C i = g[i]→Hid (∀ j,j < i + 1→C j = g.getD j 0):=fun h=>Lib.hid fun j hj=>by
    by_cases e : j = i
    ·rw [e,hgi];exact h
    ·exact hpre.out j (by omega)
   rw [← hB9.out] at hne
   clear hB9
   have hxw:=hx
   generalize g[i]'hgl = y at *
   generalize C i = x at *
   obtain ⟨xg,rfl⟩:=qah hE
   clear hE hpre hgi R_bb R_p R_k9
   by_cases hxy : x = y
   ·have hst:=hstep hxy
    subst hxy
    clear hstep hne
    go_wp2
    go_quiet (fail)
    go_wp2
    exact ⟨⟨i + 1,by omega,by go_num,hst,(by (repeat (first | exact qad _ _ | exact Ext.refl _ | refine Ext.drewN ?_ _ | refine Ext.trans ?_ (qae _))))⟩,by simp [intOf];omega⟩
   ·have hb : (x != y) = true:=by simpa using hxy
    have hf : Hid (b9 = false):=Lib.hid (hne hxy)
    clear hstep hne
    go_wp2
    go_quiet (fail)
    go_wp2
    rw [hf.out]
    go_ret
    exact ⟨rfl,hxw.trans (by (repeat (first | exact qad _ _ | exact Ext.refl _ | refine Ext.drewN ?_ _ | refine Ext.trans ?_ (qae _))))⟩
  ·obtain rfl : i = 32:=by omega
   have hf : Hid (b9 = true):=Lib.hid (by
    rw [hB9.out,beq_iff_eq]
    apply List.ext_getElem?
    intro j
    by_cases hj : j < 32
    ·have h2:=hpre.out j hj
     rw [List.getElem?_take,if_pos hj,qao,List.getElem?_map,List.getElem?_range hj]
     simp only [Option.map_some]
     rw [h2,List.getD_eq_getElem?_getD,List.getElem?_eq_getElem (by omega)]
     rfl
    ·rw [List.getElem?_eq_none (by rw [qau];omega),List.getElem?_eq_none (by simp;omega)])
   clear hpre
   go_wp2
   rw [hf.out]
   go_ret
   exact ⟨rfl,hx.trans hE⟩
end Go.Proofs.YtgeihelkkhjjaaaGreatDoor
end
section
namespace Go.Proofs.YtgeihelkkhjjaaaGreatDoor
open Go.RowKit Go.Cv Go.Cv.Pr Go.Cv.Grp Go.Cv.Hash
theorem rver_a (A1 : Option Addr) (n1 c1 : Nat) (A2 : Option Addr) (n2 c2 : Nat) (A3 : Option Addr) (n3 c3 : Nat) (w : World) (h : n1 ≠ 32 ∨ n3 ≠ 64) :
  Calls Tryz.prog 12 #[.slice A1 n1 c1,.slice A2 n2 c2,.slice A3 n3 c3] w fun e w'=>e = .returned (.bool false)∧Ext w w':=by
 by_cases h1 : n1 = 32
 ·have h3 : ¬ (n3 : Int) = 64:=by omega
  have h1' : (n1 : Int) = 32:=by omega
  go_enter Tryz.func12,Tryz.ntmps12
  go_wp2
  go_ret
  exact ⟨rfl,Ext.refl _⟩
 ·have h1' : ¬ (n1 : Int) = 32:=by omega
  go_enter Tryz.func12,Tryz.ntmps12
  go_wp2
  go_ret
  exact ⟨rfl,Ext.refl _⟩
theorem rver_e (adK : Addr) (c1 : Nat) (key : List UInt8) (A2 : Option Addr) (n2 c2 : Nat) (A3 : Option Addr) (c3 : Nat) (w : World) (hk : key.length = 32) (hr1 : Rd w (some adK) (key.map bv)) (hP : decP (lf key 0) = none) :
  Calls Tryz.prog 12 #[.slice (some adK) 32 c1,.slice A2 n2 c2,.slice A3 64 c3] w fun e w'=>e = .returned (.bool false)∧Ext w w':=by
 have har : Calls Tryz.prog 25 #[.slice (some adK) 32 c1] w fun e w2=>e = .returned (.agg (qab (lf key 0)))∧Ext w w2:=qjm (some adK) 32 c1 key w hk (Nat.le_refl _) hr1
 have hdc : ∀ w',Calls Tryz.prog 29 #[.agg (qab (lf key 0))] w' fun e w2=>e = .returned (.tuple #[.agg (pc (fun _=>0) (fun _=>0)),.bool false])∧Ext w' w2:=fun w'=>by
  have:=qjl (lf key 0) w'
  rwa [qk6 hP,qfd] at this
 generalize lf key 0 = kf at *
 clear hk hr1 hP
 go_enter Tryz.func12,Tryz.ntmps12
 go_wp2_with (first
  | (go_at_call 25;(with_reducible refine har.mono ?_);rintro e w1 ⟨rfl,hx1⟩)
  | (go_at_call 29;(with_reducible refine (hdc _).mono ?_);rintro e w2 ⟨rfl,hx2⟩;have hxp:=(hx1.trans hx2).trans (qaa w2 (.cells (pc (fun _=>0) (fun _=>0)) 49))))
 go_ret
 exact ⟨rfl,hxp⟩
theorem rver_c (P : P7) (adK : Addr) (c1 : Nat) (key : List UInt8) (A2 : Option Addr) (n2 c2 : Nat) (A3 : Option Addr) (c3 : Nat) (g : List UInt8) (w : World) (hk : key.length = 32) (hr1 : Rd w (some adK) (key.map bv)) (hg : g.length = 64) (hc3 : 64 ≤ c3) (hr3 : Rd w A3 (g.map bv)) (hlo : ¬ V (lf g 32) < ordN) (hP : decP (lf key 0) = some P) :
  Calls Tryz.prog 12 #[.slice (some adK) 32 c1,.slice A2 n2 c2,.slice A3 64 c3] w fun e w'=>e = .returned (.bool false)∧Ext w w':=by
 obtain ⟨adS,hcut,hrS⟩:=qhs hg hr3 hc3
 have hgd : (g.drop 32).length = 32:=by simp [hg]
 have har : Calls Tryz.prog 25 #[.slice (some adK) 32 c1] w fun e w2=>e = .returned (.agg (qab (lf key 0)))∧Ext w w2:=qjm (some adK) 32 c1 key w hk (Nat.le_refl _) hr1
 have hdc : ∀ w',Calls Tryz.prog 29 #[.agg (qab (lf key 0))] w' fun e w2=>e = .returned (.tuple #[.agg (pc (fb P.x) (fb P.y)),.bool true])∧Ext w' w2:=fun w'=>by
  have:=qjl (lf key 0) w'
  rwa [(qek hP).1,(qek hP).2,qhl] at this
 have hof : ∀ w',Ext w w'→Calls Tryz.prog 31 #[.slice (some adS) 32 (c3 - 32)] w' fun e w2=>∃ v,e = .returned v∧Num w2 v (V (lf g 32)) 11∧Ext w' w2:=fun w' hx=>by
  refine (qko (some adS) 32 (c3 - 32) (g.drop 32) w' hgd (by rw [List.map_drop];exact hrS.ext hx) (by decide)).mono ?_
  rintro e w2 ⟨v,rfl,hv,hx2⟩
  have e1 : bsum (Dig.lb (g.drop 32)) 32 = V (lf g 32):=qb8 32 fun j hj=>by
   unfold Dig.lb lf
   simp [List.getD_eq_getElem?_getD,List.getElem?_drop]
  rw [e1] at hv
  exact ⟨v,rfl,hv.short (Nat.lt_of_lt_of_le (V_lt _) (by decide)),hx2⟩
 have hcm : ∀ w' v1 v2,Num w' v1 (V (lf g 32)) 11→Num w' v2 ordN 11→Calls Tryz.prog 30 #[v1,v2] w' fun e w2=>∃ c : Int,e = .returned (.int .i64 c)∧0 ≤ c∧Ext w' w2:=fun w' v1 v2 h1 h2=>(qc7 w' v1 v2 _ _ h1 h2).mono fun e w2 ⟨c,he,hc,hx⟩=>by
  rcases hc with ⟨h,_⟩ | ⟨_,h⟩ | ⟨_,h⟩
  ·exact absurd h hlo
  ·exact ⟨c,he,by omega,hx⟩
  ·exact ⟨c,he,by omega,hx⟩
 generalize V (lf g 32) = S at *
 generalize lf key 0 = kf at *
 clear hk hr1 hP hlo hgd hrS hr3
 have hc3I : (64 : Int) ≤ (c3 : Int):=by omega
 go_enter Tryz.func12,Tryz.ntmps12
 go_wp2_with (first
  | (go_at_call 25;(with_reducible refine har.mono ?_);rintro e w1 ⟨rfl,hx1⟩)
  | (go_at_call 29;(with_reducible refine (hdc _).mono ?_);rintro e w2 ⟨rfl,hx2⟩;have hxp:=(hx1.trans hx2).trans (qaa w2 (.cells (pc (fb P.x) (fb P.y)) 49)))
  | (go_at_call 31;(with_reducible refine (hof _ hxp).mono ?_);rintro e w3 ⟨v3,rfl,hv3,hx3⟩)
  | (go_at_call 32;(with_reducible refine (qgv _).mono ?_);rintro e w4 ⟨v4,rfl,hv4,hx4⟩;replace hv3:=hv3.ext hx4)
  | (go_at_call 30;(with_reducible refine (hcm _ _ _ hv3 hv4).mono ?_);rintro e w5 ⟨cc,rfl,hcc,hx5⟩;have hxq:=hxp.trans ((hx3.trans hx4).trans hx5)))
 go_ret
 exact ⟨rfl,hxq⟩
theorem rver_any (A1 : Option Addr) (n1 c1 : Nat) (key : List UInt8) (A2 : Option Addr) (n2 c2 : Nat) (t : List UInt8) (A3 : Option Addr) (n3 c3 : Nat) (g : List UInt8) (w : World) (hk : key.length = n1) (hc1 : n1 ≤ c1) (hr1 : Rd w A1 (key.map bv)) (ht : t.length = n2) (hr2 : Rd w A2 (t.map bv)) (hg : g.length = n3) (hc3 : n3 ≤ c3) (hr3 : Rd w A3 (g.map bv)) (bnd : n2 ≤ 4800000) :
  Calls Tryz.prog 12 #[.slice A1 n1 c1,.slice A2 n2 c2,.slice A3 n3 c3] w fun e w'=>e = .returned (.bool (sVer key t g))∧Ext w w':=by
 unfold sVer
 by_cases h1 : key.length = 32
 ·rw [if_pos h1]
  have e1 : n1 = 32:=hk.symm.trans h1
  by_cases h3 : g.length = 64
  ·rw [if_pos h3]
   have e3 : n3 = 64:=hg.symm.trans h3
   subst e1
   subst e3
   obtain ⟨adK,e,_⟩:=hr1.at_ (k:=0) (by simp [h1])
   subst e
   by_cases hlo : V (lf g 32) < ordN
   ·rw [if_pos hlo]
    cases hP : decP (lf key 0) with
    | some P=>rw [← hP];exact rver_d P adK c1 key A2 n2 c2 t A3 c3 g w h1 hc1 hr1 ht hr2 h3 hc3 hr3 bnd hlo hP
    | none=>exact rver_e adK c1 key A2 n2 c2 A3 c3 w h1 hr1 hP
   ·rw [if_neg hlo]
    cases hP : decP (lf key 0) with
    | some P=>exact rver_c P adK c1 key A2 n2 c2 A3 c3 g w h1 hr1 h3 hc3 hr3 hlo hP
    | none=>exact rver_e adK c1 key A2 n2 c2 A3 c3 w h1 hr1 hP
  ·rw [if_neg h3]
   exact rver_a A1 n1 c1 A2 n2 c2 A3 n3 c3 w (.inr (by omega))
 ·rw [if_neg h1]
  exact rver_a A1 n1 c1 A2 n2 c2 A3 n3 c3 w (.inl (by omega))
end Go.Proofs.YtgeihelkkhjjaaaGreatDoor
end
