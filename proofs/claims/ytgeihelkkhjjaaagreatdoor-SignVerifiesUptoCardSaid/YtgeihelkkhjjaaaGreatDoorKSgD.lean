/-
  Texts of the lemmas below the claim, put together: SgD SgO SgL.
-/
import Derived.Test.YtgeihelkkhjjaaaGreatDoorKSgH
import Derived.Deep.Upon
set_option linter.unusedSimpArgs false
set_option linter.unusedVariables false
set_option maxRecDepth 20000
set_option maxHeartbeats 16000000
section
namespace Go.Proofs.YtgeihelkkhjjaaaGreatDoor
open Go.RowKit Go.Cv Go.Cv.Pr Go.Cv.Grp Go.Cv.Hash
def qiq (w : World) (vs : List Value) (ls : List (List UInt8)) : Prop:=vs.length = ls.length∧∀ i,i < ls.length→∃ A n c,vs[i]? = some (.slice A n c)∧(ls.getD i []).length = n∧n ≤ c∧Rd w A ((ls.getD i []).map bv)
theorem qiq.ext {w w' : World} {vs : List Value} {ls : List (List UInt8)} (h : qiq w vs ls) (hx : Ext w w') : qiq w' vs ls :=
 ⟨h.1,fun i hi=>by obtain ⟨A,n,c,h1,h2,h3,h4⟩:=h.2 i hi;exact ⟨A,n,c,h1,h2,h3,h4.ext hx⟩⟩
theorem qiq.one {w : World} {A : Option Addr} {n c : Nat} {l : List UInt8} (hl : l.length = n) (hc : n ≤ c) (hr : Rd w A (l.map bv)) : qiq w [.slice A n c] [l] :=
 ⟨rfl,fun i hi=>by
  match i,hi with
  | 0,_=>exact ⟨A,n,c,rfl,hl,hc,hr⟩⟩
theorem qiq.two {w : World} {A A' : Option Addr} {n c n' c' : Nat} {l l' : List UInt8} (hl : l.length = n) (hc : n ≤ c) (hr : Rd w A (l.map bv)) (hl' : l'.length = n') (hc' : n' ≤ c') (hr' : Rd w A' (l'.map bv)) : qiq w [.slice A n c,.slice A' n' c'] [l,l'] :=
 ⟨rfl,fun i hi=>by
  match i,hi with
  | 0,_=>exact ⟨A,n,c,rfl,hl,hc,hr⟩
  | 1,_=>exact ⟨A',n',c',rfl,hl',hc',hr'⟩⟩
theorem qio {P : Program} {w : World} {ops : Array Oper} {rest : List Oper} {o : Oper} {a : Act} {Q : Exit→Act→World→Prop} (hgd : o.guard = none) (s x : Operand) (t e : TypeId) (bytes : Nat)
  (ho : o.op = .call { callee:=.builtin .append,args:=#[s,x],argTypes:=#[t,t] }) (hT : RowT P t e bytes) (A : Option Addr) (n c : Nat) (hs : a.eval s = .slice A n c) (hnc : n ≤ c) (B : Option Addr) (d : Nat) (hx : a.eval x = .slice B 0 d)
  (h : wpList P ops Q rest (a.put o.dst (.slice A n c)) w) : wpList P ops Q (o :: rest) a w :=
 wpList_plain hgd fun _ hK=>by
  obtain ⟨ht,z,i,hi,hz,hsize,hby,hzs⟩:=hT
  have hsrc : Src P i.size t (.slice B 0 d) 0 [] w:=⟨.inl ⟨e,ht⟩,fun w'=>rfl,by cases B <;> simp [Builtin.firstCells,loadCells,loadCellsFrom],by cases B <;> simp [Builtin.firstCells,loadCells,loadCellsFrom],by simp,by simp⟩
  have hrun:=run_append_nothing (P:=P) w t t o.type e i ht hi A n c hnc (.slice B 0 d) hsrc
  unfold Oper.wp execOp
  simp only [ho,resolve,invoke,builtin,Sem.run_bind,Sem.run_pure,Result.andThen_ok,List.map_toArray,List.map_cons,List.map_nil,hs,hx,hrun]
  exact hK _ _ h
theorem qq6 (ls : List (List UInt8)) (i : Nat) (hi : i < ls.length) : (ls.take (i + 1)).flatten = (ls.take i).flatten ++ ls.getD i []:=by
 rw [List.take_succ_eq_append_getElem hi,List.flatten_append]
 simp [List.getD,hi]
theorem qra (ls : List (List UInt8)) : ∀ i,(ls.take i).flatten.length ≤ ls.flatten.length:=fun i=>by
 conv=>rhs;rw [← List.take_append_drop i ls]
 rw [List.flatten_append,List.length_append];omega
def qse : List Plan:=[⟨[],[]⟩]
def qsg : List Plan:=[⟨[],[]⟩,⟨[0],[(27,0)]⟩,⟨[],[]⟩,⟨[0,1,2],[(28,1),(8,2)]⟩]
def qsh : List Plan:=[⟨[],[]⟩,⟨[0],[(30,0)]⟩,⟨[0,1],[(31,1)]⟩,⟨[0,1,2],[(29,2)]⟩,⟨[0,1,2],[(29,2)]⟩,⟨[],[]⟩,⟨[0,1,2,3,5],[(32,3),(9,5)]⟩,⟨[0,1,2,3,4,5,6],[(33,4)]⟩]
def qsi : List Plan:=[⟨[],[]⟩,⟨[0],[(34,0)]⟩]
def qsf : List Plan:=[⟨[],[]⟩,⟨[0],[(37,0)]⟩]
theorem qmw (A : Option Addr) (n c : Nat) (l : List UInt8) (L : Option Addr) (k kc : Nat) (vs : List Value) (ls : List (List UInt8)) (w : World) (hl : l.length = n) (hnc : n ≤ c) (hr : Rd w A (l.map bv)) (hR : Rd w L vs) (hk : vs.length = k) (hp : qiq w vs ls) (kb : k ≤ 5000000) (bnd : n + ls.flatten.length ≤ 5000000) (hT : Tab64 w) :
  Calls Tryz.prog 16 #[.slice A n c,.slice L k kc] w fun e w'=>e = .returned (.agg (qab (sDig (l ++ ls.flatten))))∧Ext w w':=by
 go_enter Tryz.func16,Tryz.ntmps16
 go_upto_region 0 with fail
 have hx : Ext w w:=Ext.refl w
 have hok : TrsOk [] w.heap.size ([(tk (some 0) 0 22 (none) (sz 32) (fun _=>True))] : List Trk):=⟨by simp [tk],by simp [tk],by simp [tk],by simp [tk]⟩
 have hE:=hE0 []
 refine qac (InvE [] [] [] (fun _ _=>True) [(tk (some 0) 0 22 (none) (sz 32) (fun _=>True))] w) qse [(4,0)] 38 rfl (by kernel_rfl) (InvE.start0 (Inv.start0 hok (by simp))) ⟨?_,trivial⟩ ?_
 ·exact qb3 0 hE rfl rfl rfl rfl rfl rfl hok fun L v w D I=>al_B rfl fun c h=>⟨trivial,rfl,c,rfl,qa5 c h⟩
 intro L v1 W1 hL hIE
 have hI:=hIE.inv
 obtain ⟨r,hb_r,lo_r,R_r⟩:=hI.made0 0 rfl (hL 0 (by decide))
 have bs_r:=Nat.le_trans hx.size lo_r
 have lt_r:=R_r.lt
 have hxr:=hI.keep.to_ext
 replace hx:=hx.trans hxr
 clear hI hIE hL hE L hok hxr
 simp only [putP,Act.put,zA,zB,zC,hb_r]
 replace hr:=hr.ext hx
 replace hR:=hR.ext hx
 replace hp:=hp.ext hx
 have hkl : k = ls.length:=hk.symm.trans hp.1
 have hkv : vs.length = ls.length:=hp.1
 have hH:=Lib.hid hkl
 have hN:=Lib.hid hl
 have hV:=Lib.hid hkv
 clear hkl hl hk hkv
 have hnI : (n : Int) ≤ (c : Int):=by omega
 go_wp2
 go_loopw [5,19] (fun t5 t19 wr=>∃ (i m cB : Nat) (Bd : Option Addr) (acc : List UInt8),i ≤ k∧t19 = .int .i64 i∧t5 = .slice Bd m cB∧Hid (acc = l ++ (ls.take i).flatten)∧Hid (acc.length = m)∧m ≤ cB∧Rd wr Bd (acc.map bv)∧(Hid (cB = m) ∨ wr.ownsRow W1.heap.size 5 1 (.slice Bd m cB) m (acc.map bv))∧Ext W1 wr) (fun _ t19 _=>k - (intOf t19).toNat)
 case atStart=>exact ⟨0,n,n,A,l,by omega,rfl,rfl,Lib.hid (by simp),hN,Nat.le_refl _,hr,.inl (Lib.hid rfl),Ext.refl _⟩
 case round =>
  obtain ⟨i,m,cB,Bd,acc,hik,rfl,rfl,hacc,hal,hmc,hrd,hown,hE⟩:=hrel
  by_cases h1 : i < k
  ·have h1' : (i : Int) < (k : Int):=by omega
   have hil : i < ls.length:=by rw [← hH.out];exact h1
   obtain ⟨A',n',c',hv,hpl,hpc,hpr⟩:=(hp.ext hE).2 i hil
   have hiv : i < vs.length:=by rw [hV.out];exact hil
   obtain ⟨ad,rfl,hcell⟩:=(hR.ext hE).at_ (k:=i) hiv
   rw [List.getElem?_eq_getElem hiv] at hv
   injection hv with hv
   rw [hv] at hcell
   have hacc2 : Hid (acc ++ ls.getD i [] = l ++ (ls.take (i + 1)).flatten):=Lib.hid (by rw [qq6 ls i hil,hacc.out,List.append_assoc])
   have hb2 : m + n' ≤ 5000000:=by
    have e1:=congrArg List.length hacc2.out
    have e2:=qra ls (i + 1)
    rw [List.length_append,List.length_append,hal.out,hpl,hN.out] at e1
    omega
   have hal2 : Hid ((acc ++ ls.getD i []).length = m + n'):=Lib.hid (by rw [List.length_append,hal.out,hpl])
   generalize ls.getD i [] = p at *
   clear hv hacc
   have hBs:=hE.size
   rcases hown with hcm | hown
   ·by_cases h0 : n' = 0
    ·subst h0
     have hp0 : p = []:=List.eq_nil_of_length_eq_zero hpl
     subst hp0
     rw [List.append_nil] at hacc2 hal2
     go_wp2_with (at_builtin;refine qio rfl (.tmp 23) (.tmp 24) 23 5 1 rfl qbj Bd m cB rfl hmc A' c' rfl ?_)
     exact ⟨⟨i + 1,m,cB,Bd,acc,by omega,by go_num,rfl,hacc2,hal,hmc,hrd,.inl hcm,hE⟩,by simp [intOf];omega⟩
    ·have hroom : cB < m + n':=by have:=hcm.out;omega
     have halx:=hal.out
     have hpr1 : ∀ u ∈ p.map bv,u.oneCell' = true:=qef _
     go_wp2_with (at_builtin;refine qi8 rfl (.tmp 23) (.tmp 24) 23 5 1 rfl qbj Bd m cB (acc.map bv) rfl (by simpa using halx) hrd A' n' c' (p.map bv) rfl (by simpa using hpl) hpr hroom (by unfold maxLen;omega) (by omega) ?_;intro A2 c2 w2 ho2 hc2 hm2 hr2 hx2)
     rw [← List.map_append] at ho2 hr2
     exact ⟨⟨i + 1,m + n',c2,A2,acc ++ p,by omega,by go_num,rfl,hacc2,hal2,hc2,hr2,.inr (qjr ho2 hBs),hE.trans hx2⟩,by simp [intOf];omega⟩
   ·go_wp2_with (at_builtin;refine qbh rfl (.tmp 23) (.tmp 24) 23 5 rfl qbj W1.heap.size _ m acc rfl hown A' n' c' p rfl hpl hpr (by omega) hBs ?_;intro A2 c2 w2 ho2 hc2 hm2 hr2 hx2)
    exact ⟨⟨i + 1,m + n',c2,A2,acc ++ p,by omega,by go_num,rfl,hacc2,hal2,hc2,hr2,.inr ho2,hx2 W1 hE (Nat.le_refl _)⟩,by simp [intOf];omega⟩
  ·have h1' : ¬ (i : Int) < (k : Int):=by omega
   have hfin : acc = l ++ ls.flatten:=by
    have:=hacc.out
    rwa [List.take_of_length_le (by rw [← hH.out];omega)] at this
   have hb2 : m ≤ 5000000:=by
    have e1:=congrArg List.length hfin
    rw [List.length_append,hal.out,hN.out] at e1
    omega
   have hs : ∀ w',Ext w w'→Rd w' Bd (acc.map bv)→Calls Tryz.prog 41 #[.slice Bd m cB] w' fun e w2=>e = .returned (h64 (hash64 acc))∧Ext w' w2:=fun w' hx hr=>qit Bd m cB acc w' hal.out hmc hr hb2 (hT.ext hx)
   have hDs : Hid (sDig (l ++ ls.flatten) = nb (bsum (fun j=>(hash64 acc).getD j 0) 64 % ordN)):=Lib.hid (by rw [← hfin];rfl)
   have hH64:=qg2 acc
   have hsc : ∀ w' A,Rd w' A ((hash64 acc).map bv)→Calls Tryz.prog 42 #[.slice A 64 64] w' fun e w2=>e = .returned (.tuple #[.agg (qab (nb (bsum (fun j=>(hash64 acc).getD j 0) 64 % ordN))),.nilIface])∧Ext w' w2:=fun w' A hr=>qpl A 64 64 _ w' hH64 hr (Nat.le_refl _)
   generalize nb (bsum (fun j=>(hash64 acc).getD j 0) 64 % ordN) = D at *
   generalize hash64 acc = H at *
   replace hx:=hx.trans hE
   replace R_r:=R_r.ext hE
   have bs_r':=bs_r
   replace lt_r:=R_r.lt
   clear hfin hacc hown hp hR hE
   go_upto_region 7 with fail
   have hok : TrsOk [] wr.heap.size ([(tk (some 2) 0 26 (some 3) (sz 64) (fun u=>u = h64 (H)))] : List Trk):=⟨by simp [tk],by simp [tk],by simp [tk],by simp [tk]⟩
   have hE : ∀ p ∈ ([] : List (Nat × (Value→World→Prop))),qck [26] p.2:=fun p hp=>by cases hp
   refine qac (InvE [26] [] [] (fun j u=>match j with | 0=>u = .slice Bd m cB | 1=>u = h64 H | _=>True) [(tk (some 2) 0 26 (some 3) (sz 64) (fun u=>u = h64 (H)))] wr) qsg [(27,0),(28,1),(8,2)] 38 rfl (by kernel_rfl) (InvE.start0 (Inv.start0 hok (by simp))) ⟨?_,?_,?_,?_,trivial⟩ ?_
   ·exact eV hE fun L v w D N I=>⟨rfl,Ext.refl _⟩
   ·exact eV hE fun L v w D N I=>gSum _ _ rfl rfl (qaf (qai (hs w (hx.trans I.inv.keep.to_ext) (hrd.ext I.inv.keep.to_ext)) (ar1 (I.inv.val 0 (D 0 rfl)))))
   ·exact qb3 0 hE rfl rfl rfl rfl rfl rfl hok fun L v w D I=>al_H rfl fun c h=>⟨trivial,rfl,c,rfl,qa5 c h⟩
   ·exact qd2 0 2 hE rfl rfl rfl rfl rfl rfl rfl rfl hok fun L v w D I n cs hb hR ho=>st_H hR (qaq ho) hH64 _ _ rfl hb (I.inv.val 1 (D 1 rfl)) fun _ c a b k=>⟨trivial,k,c,a,b⟩
   intro L v2 W2 hL hIE
   have hI:=hIE.inv
   obtain ⟨h,hb_h,lo_h,R_h⟩:=hI.made 0 rfl (hL 2 (by decide)) (hL 3 (by decide))
   replace R_r:=R_r.keep0 hI.keep
   have ne_r_h:=Nat.ne_of_lt (Nat.lt_of_lt_of_le lt_r lo_h)
   replace lt_r:=ltk lt_r hI.keep.size
   have hxr:=hI.keep.to_ext
   replace hx:=hx.trans hxr
   clear hI hIE hL hE L hok hxr
   simp only [putP,Act.put,zA,zB,zC,hb_h]
   go_upto_region 8 with fail
   have hok : TrsOk [] W2.heap.size ([(tk (some 5) 0 22 (some 6) (sz 32) (fun u=>u = .agg (qab (D))))] : List Trk):=⟨by simp [tk],by simp [tk],by simp [tk],by simp [tk]⟩
   have hE : ∀ p ∈ ([] : List (Nat × (Value→World→Prop))),qck [22] p.2:=fun p hp=>by cases hp
   refine qac (InvE [22] [] [] (fun j u=>match j with | 0=>u = .slice (some ⟨h,0,none⟩) 64 64 | 1=>u = .tuple #[.agg (qab D),.nilIface] | 2=>u = .tuple #[.agg (qab D),.nilIface] | 3=>u = .agg (qab D) | 4=>u = .nilIface | 7=>u = .nilIface | _=>True) [(tk (some 5) 0 22 (some 6) (sz 32) (fun u=>u = .agg (qab (D))))] W2) qsh [(30,0),(31,1),(29,2),(32,3),(33,4),(9,5),(10,7)] 38 rfl (by kernel_rfl) (InvE.start0 (Inv.start0 hok (by simp))) ⟨?_,?_,?_,?_,?_,?_,?_,?_,trivial⟩ ?_
   ·exact eV hE fun L v w D N I=>sl64 _ rfl rfl ⟨rfl,Ext.refl _⟩
   ·exact eV hE fun L v w D N I=>gSca _ _ rfl rfl (qaf (qai (hsc w _ (rd_H (R_h.keep0 I.inv.keep))) (ar1 (I.inv.val 0 (D 0 rfl)))))
   ·exact eV hE fun L v w D N I=>⟨(I.inv.val 1 (D 1 rfl)),Ext.refl _⟩
   ·exact eV hE fun L v w D N I=>qa9 _ _ _ rfl (I.inv.val 2 (D 2 rfl)) _ rfl ⟨rfl,Ext.refl _⟩
   ·exact eV hE fun L v w D N I=>qa9 _ _ _ rfl (I.inv.val 2 (D 2 rfl)) _ rfl ⟨rfl,Ext.refl _⟩
   ·exact qb3 0 hE rfl rfl rfl rfl rfl rfl hok fun L v w D I=>al_B rfl fun c h=>⟨trivial,rfl,c,rfl,qa5 c h⟩
   ·exact qd2 0 5 hE rfl rfl rfl rfl rfl rfl rfl rfl hok fun L v w D I n cs hb hR ho=>st_B hR (qaq ho) _ _ rfl hb (I.inv.val 3 (D 3 rfl)) fun _ c a b k=>⟨trivial,k,c,a,b⟩
   ·exact eV hE fun L v w D N I=>⟨(I.inv.val 4 (D 4 rfl)),Ext.refl _⟩
   intro L v3 W3 hL hIE
   have hI:=hIE.inv
   obtain ⟨k9,hb_k9,lo_k9,R_k9⟩:=hI.made 0 rfl (hL 5 (by decide)) (hL 6 (by decide))
   replace R_r:=R_r.keep0 hI.keep
   replace R_h:=R_h.keep0 hI.keep
   have ne_r_k9:=Nat.ne_of_lt (Nat.lt_of_lt_of_le lt_r lo_k9)
   replace lt_r:=ltk lt_r hI.keep.size
   have hxr:=hI.keep.to_ext
   replace hx:=hx.trans hxr
   have hs_10_8 : (v3 7) = .nilIface:=hI.val 7 (hL 7 (by decide))
   clear hI hIE hL hE L hok hxr
   simp only [putP,Act.put,zA,zB,zC,hb_k9,hs_10_8]
   go_upto_region 9 with fail
   have hE:=hE0 []
   refine qac (InvE [] [] [] (fun j u=>match j with | 0=>u = .nilIface | 1=>u = .bool false | _=>True) [] W3) qsi [(34,0),(35,1)] 38 rfl (by kernel_rfl) (InvE.start0 (Inv.start0 ⟨by simp,by simp,by simp,by simp⟩ (by simp))) ⟨?_,?_,trivial⟩ ?_
   ·exact eV hE fun L v w D N I=>⟨rfl,Ext.refl _⟩
   ·exact eV hE fun L v w D N I=>qcf _ _ rfl (I.inv.val 0 (D 0 rfl)) rfl ⟨rfl,Ext.refl _⟩
   intro L v4 W4 hL hIE
   have hI:=hIE.inv
   replace R_r:=R_r.keep0 hI.keep
   replace R_h:=R_h.keep0 hI.keep
   replace R_k9:=R_k9.keep0 hI.keep
   replace lt_r:=ltk lt_r hI.keep.size
   have hxr:=hI.keep.to_ext
   replace hx:=hx.trans hxr
   have hs_35_9 : (v4 1) = .bool false:=hI.val 1 (hL 1 (by decide))
   clear hI hIE hL hE L hxr
   simp only [putP,Act.put,zA,zB,zC,hs_35_9]
   go_upto_region 11 with fail
   have hok : TrsOk [r] W4.heap.size ([(tk (none) r 22 (some 1) (sz 32) (fun u=>u = .agg (qab (D))))] : List Trk):=⟨by simp [tk,R_r.lt],by simp [tk],by simp [tk],by simp [tk]⟩
   have hE : ∀ p ∈ ([] : List (Nat × (Value→World→Prop))),qck [22] p.2:=fun p hp=>by cases hp
   refine qac (InvE [22] [] [r] (fun j u=>match j with | 0=>u = .agg (qab D) | _=>True) [(tk (none) r 22 (some 1) (sz 32) (fun u=>u = .agg (qab (D))))] W4) qsf [(37,0)] 38 rfl (by kernel_rfl) (InvE.start0 (Inv.start0 hok (by
     simp only [zD,zE,zF,zG,zH]
     exact fun _=>R_r))) ⟨?_,?_,trivial⟩ ?_
   ·exact eV hE fun L v w D N I=>ld_B (R_k9.keep1 I.inv.keep (Ne.symm ne_r_k9)) _ rfl rfl ldK
   ·exact qhb 0 hE rfl rfl rfl rfl rfl rfl rfl hok fun L v w D I cs hR ho=>st_B hR (qaq ho) _ _ rfl rfl (I.inv.val 0 (D 0 rfl)) fun _ c a b k=>⟨trivial,k,c,a,b⟩
   intro L v5 W5 hL hIE
   have hI:=hIE.inv
   replace R_h:=R_h.keep1 hI.keep (Ne.symm ne_r_h)
   replace R_k9:=R_k9.keep1 hI.keep (Ne.symm ne_r_k9)
   replace R_r:=hI.new 0 rfl (hL 1 (by decide))
   replace lt_r:=ltk lt_r hI.keep.size
   replace hx:=hx.keep1 hI.keep bs_r
   clear hI hIE hL hE L hok
   simp only [putP,Act.put,zA,zB,zC]
   go_wp2
   refine bodyPost_ret (qcs rfl _ R_r rfl) rfl ⟨?_,hx⟩
   rw [hDs.out]
end Go.Proofs.YtgeihelkkhjjaaaGreatDoor
end
section
namespace Go.Proofs.YtgeihelkkhjjaaaGreatDoor
open Go.RowKit Go.Cv Go.Cv.Pr Go.Cv.Grp Go.Cv.Hash
theorem sNum_is (H : List UInt8) : ∀ i,i < 32→updb (updb (lf H 0) 0 ((lf H 0) 0 &&& 248)) 31 ((updb (lf H 0) 0 ((lf H 0) 0 &&& 248)) 31 &&& 63 ||| 64) i = sNum H i:=by
 intro i hi
 unfold sNum updb lf
 by_cases h1 : i = 31
 ·rw [if_pos h1,if_pos h1];rfl
 ·rw [if_neg h1,if_neg h1]
  by_cases h0 : i = 0
  ·rw [if_pos h0,if_pos h0]
  ·rw [if_neg h0,if_neg h0,Nat.zero_add]
def qr6 : List Plan:=[⟨[],[]⟩,⟨[],[]⟩]
def qr7 : List Plan:=[⟨[],[]⟩,⟨[0],[(5,0)]⟩,⟨[],[]⟩,⟨[0,1,2],[(6,1),(3,2)]⟩]
def qr8 : List Plan:=[⟨[],[]⟩,⟨[0],[(7,0)]⟩,⟨[0,1],[(8,1)]⟩,⟨[],[]⟩,⟨[3],[(10,3)]⟩,⟨[3,4],[(11,4)]⟩,⟨[0,1,2,3,4,5],[(9,2),(12,5)]⟩,⟨[],[]⟩,⟨[0,1,2,3,4,5,6,7],[(13,6),(4,7)]⟩]
def qr9 : List Plan:=[⟨[],[]⟩,⟨[0],[(14,0)]⟩,⟨[0,1],[(15,1)]⟩,⟨[0,1,2],[(16,2)]⟩,⟨[],[]⟩,⟨[0,1,2,3,4],[(18,4)]⟩,⟨[0,1,2,3,4,5],[(17,3),(19,5)]⟩]
def qsa : List Plan:=[⟨[],[]⟩,⟨[0],[(20,0)]⟩,⟨[0,1],[(21,1)]⟩,⟨[0,1,2],[(22,2)]⟩,⟨[0,1,2,3],[(23,3)]⟩,⟨[],[]⟩,⟨[0,1,2,3,4,5],[(25,5)]⟩,⟨[0,1,2,3,4,5,6],[(24,4),(26,6)]⟩]
def qsb : List Plan:=[⟨[],[]⟩,⟨[0],[(27,0)]⟩]
theorem qpe (f : Nat→UInt8) (w : World) (hT : Tab64 w) :
  Calls Tryz.prog 14 #[.agg (qab f)] w fun e w'=>e = .returned (.agg (pc (sNum (qbu f)) (lf (qbu f) 32)))∧Ext w w':=by
 have hs : ∀ (w' : World) (A : Option Addr),Rd w' A ((qao f).map bv)→Ext w w'→Calls Tryz.prog 41 #[.slice A 32 32] w' fun e w2=>e = .returned (h64 (qbu f))∧Ext w' w2:=fun w' A hr hx=>qit A 32 32 (qao f) w' (qau f) (Nat.le_refl _) hr (by decide) (hT.ext hx)
 have hl : (qbu f).length = 64:=qg2 _
 generalize qbu f = H at *
 go_enter Tryz.func14,Tryz.ntmps14
 go_upto_region 0 with fail
 have hx : Ext w w:=Ext.refl w
 have hok : TrsOk [] w.heap.size ([(tk (some 0) 0 22 (none) (fun u=>u = .agg (qab (f))) (fun _=>True)),(tk (some 1) 0 35 (none) (sz 64) (fun _=>True))] : List Trk):=⟨by simp [tk],by simp [tk],by simp [tk],by simp [tk]⟩
 have hE:=hE0 []
 refine qac (InvE [] [] [] (fun _ _=>True) [(tk (some 0) 0 22 (none) (fun u=>u = .agg (qab (f))) (fun _=>True)),(tk (some 1) 0 35 (none) (sz 64) (fun _=>True))] w) qr6 [(1,0),(2,1)] 28 rfl (by kernel_rfl) (InvE.start0 (Inv.start0 hok (by simp))) ⟨?_,?_,trivial⟩ ?_
 ·exact qb3 0 hE rfl rfl rfl rfl rfl rfl hok fun L v w D I=>qba (qab (f)).toList rfl rfl ⟨trivial,rfl,_,rfl,rfl⟩
 ·exact qb3 1 hE rfl rfl rfl rfl rfl rfl hok fun L v w D I=>al_S rfl fun c h=>⟨trivial,rfl,c,rfl,qa5 c h⟩
 intro L v1 W1 hL hIE
 have hI:=hIE.inv
 obtain ⟨b,hb_b,lo_b,R_b⟩:=hI.made0 0 rfl (hL 0 (by decide))
 obtain ⟨r,hb_r,lo_r,R_r⟩:=hI.made0 1 rfl (hL 1 (by decide))
 have ne_b_r:=hI.two 0 1 rfl rfl rfl rfl rfl (hL 0 (by decide)) (hL 1 (by decide)) hb_b hb_r
 have bs_r:=Nat.le_trans hx.size lo_r
 have lt_r:=R_r.lt
 have hxr:=hI.keep.to_ext
 replace hx:=hx.trans hxr
 clear hI hIE hL hE L hok hxr
 simp only [putP,Act.put,zA,zB,zC,hb_b,hb_r]
 go_upto_region 1 with fail
 have hok : TrsOk [] W1.heap.size ([(tk (some 2) 0 26 (some 3) (sz 64) (fun u=>u = h64 (H)))] : List Trk):=⟨by simp [tk],by simp [tk],by simp [tk],by simp [tk]⟩
 have hE : ∀ p ∈ ([] : List (Nat × (Value→World→Prop))),qck [26] p.2:=fun p hp=>by cases hp
 refine qac (InvE [26] [] [] (fun j u=>match j with | 0=>u = .slice (some ⟨b,0,none⟩) 32 32 | 1=>u = h64 H | _=>True) [(tk (some 2) 0 26 (some 3) (sz 64) (fun u=>u = h64 (H)))] W1) qr7 [(5,0),(6,1),(3,2)] 28 rfl (by kernel_rfl) (InvE.start0 (Inv.start0 hok (by simp))) ⟨?_,?_,?_,?_,trivial⟩ ?_
 ·exact eV hE fun L v w D N I=>sl32 _ rfl rfl ⟨rfl,Ext.refl _⟩
 ·exact eV hE fun L v w D N I=>gSum _ _ rfl rfl (qaf (qai (hs w _ (rd_B (R_b.keep0 I.inv.keep)) (hx.trans I.inv.keep.to_ext)) (ar1 (I.inv.val 0 (D 0 rfl)))))
 ·exact qb3 0 hE rfl rfl rfl rfl rfl rfl hok fun L v w D I=>al_H rfl fun c h=>⟨trivial,rfl,c,rfl,qa5 c h⟩
 ·exact qd2 0 2 hE rfl rfl rfl rfl rfl rfl rfl rfl hok fun L v w D I n cs hb hR ho=>st_H hR (qaq ho) hl _ _ rfl hb (I.inv.val 1 (D 1 rfl)) fun _ c a b k=>⟨trivial,k,c,a,b⟩
 intro L v2 W2 hL hIE
 have hI:=hIE.inv
 obtain ⟨h,hb_h,lo_h,R_h⟩:=hI.made 0 rfl (hL 2 (by decide)) (hL 3 (by decide))
 replace R_b:=R_b.keep0 hI.keep
 replace R_r:=R_r.keep0 hI.keep
 have ne_r_h:=Nat.ne_of_lt (Nat.lt_of_lt_of_le lt_r lo_h)
 replace lt_r:=ltk lt_r hI.keep.size
 have hxr:=hI.keep.to_ext
 replace hx:=hx.trans hxr
 clear hI hIE hL hE L hok hxr
 simp only [putP,Act.put,zA,zB,zC,hb_h]
 go_upto_region 2 with fail
 have hok : TrsOk [] W2.heap.size ([(tk (some 7) 0 35 (some 8) (sz 64) (fun u=>u = .agg (pc (lf H 0) (lf H 32))))] : List Trk):=⟨by simp [tk],by simp [tk],by simp [tk],by simp [tk]⟩
 have hE:=hE0 [35]
 refine qag (InvE [35] [] [] (fun j u=>match j with | 0=>u = .slice (some ⟨h,0,none⟩) 32 64 | 1=>u = .pointer (some ⟨h,0,none⟩) | 2=>u = .agg (qab (lf H 0)) | 3=>u = .slice (some ⟨h,32,none⟩) 32 32 | 4=>u = .pointer (some ⟨h,32,none⟩) | 5=>u = .agg (qab (lf H 32)) | 6=>u = .agg (pc (lf H 0) (lf H 32)) | _=>True) [(tk (some 7) 0 35 (some 8) (sz 64) (fun u=>u = .agg (pc (lf H 0) (lf H 32))))] W2) qr8 [(7,0),(8,1),(9,2),(10,3),(11,4),(12,5),(13,6),(4,7)] 28 (by kernel_rfl) rfl (by kernel_rfl) (InvE.start (Inv.start hok (by simp))) ⟨?_,?_,?_,?_,?_,?_,?_,?_,?_,trivial⟩ ?_
 ·exact eV hE fun L v w D N I=>sl64hi _ rfl rfl rfl ⟨rfl,Ext.refl _⟩
 ·exact eV hE fun L v w D N I=>qc6 _ _ rfl _ _ _ 32 _ (I.inv.val 0 (D 0 rfl)) u22 (by decide) ⟨rfl,Ext.refl _⟩
 ·exact eV hE fun L v w D N I=>ld_Hk 0 (R_h.keep0 I.inv.keep) hl (by decide) _ rfl (I.inv.val 1 (D 1 rfl)) ldK
 ·exact eV hE fun L v w D N I=>sl64lo _ rfl rfl rfl ⟨rfl,Ext.refl _⟩
 ·exact eV hE fun L v w D N I=>qc6 _ _ rfl _ _ _ 32 _ (I.inv.val 3 (D 3 rfl)) u22 (by decide) ⟨rfl,Ext.refl _⟩
 ·exact eV hE fun L v w D N I=>ld_Hk 32 (R_h.keep0 I.inv.keep) hl (by decide) _ rfl (I.inv.val 4 (D 4 rfl)) ldK
 ·exact eV hE fun L v w D N I=>bd_S _ _ rfl (I.inv.val 2 (D 2 rfl)) (I.inv.val 5 (D 5 rfl)) ldK
 ·exact qb3 0 hE rfl rfl rfl rfl rfl rfl hok fun L v w D I=>al_S rfl fun c h=>⟨trivial,rfl,c,rfl,qa5 c h⟩
 ·exact qd2 0 7 hE rfl rfl rfl rfl rfl rfl rfl rfl hok fun L v w D I n cs hb hR ho=>st_S hR (qaq ho) _ _ rfl hb (I.inv.val 6 (D 6 rfl)) fun _ c a b k=>⟨trivial,k,c,a,b⟩
 intro L v3 W3 hL hIE
 have hI:=hIE.inv
 obtain ⟨s,hb_s,lo_s,R_s⟩:=hI.made 0 rfl (hL 7 (by decide)) (hL 8 (by decide))
 have lt_b:=R_b.lt
 have lt_h:=R_h.lt
 replace R_b:=R_b.keep0 hI.keep
 replace R_r:=R_r.keep0 hI.keep
 replace R_h:=R_h.keep0 hI.keep
 have ne_b_s:=Nat.ne_of_lt (Nat.lt_of_lt_of_le lt_b lo_s)
 have ne_r_s:=Nat.ne_of_lt (Nat.lt_of_lt_of_le lt_r lo_s)
 have ne_h_s:=Nat.ne_of_lt (Nat.lt_of_lt_of_le lt_h lo_s)
 replace lt_r:=ltk lt_r hI.keep.size
 have bs_s:=Nat.le_trans hx.size lo_s
 have lt_s:=R_s.lt
 have hxr:=hI.keep.to_ext
 replace hx:=hx.trans hxr
 clear hI hIE hL hE L hok hxr
 simp only [putP,Act.put,zA,zB,zC,hb_s]
 go_upto_region 3 with fail
 have hok : TrsOk [s] W3.heap.size ([(tk (none) s 35 (some 6) (fun u=>u = .agg (pc (lf H 0) (lf H 32))) (fun u=>u = .agg (pc (updb (lf H 0) 0 ((lf H 0) 0 &&& 248)) (lf H 32))))] : List Trk):=⟨by simp [tk,R_s.lt],by simp [tk],by simp [tk],by simp [tk]⟩
 have hE:=hE0 [35]
 refine qac (InvE [35] [] [s] (fun j u=>match j with | 0=>u = .pointer (some ⟨s,0,none⟩) | 1=>u = .pointer (some ⟨s,0 * 1,none⟩) | 2=>u = .int .u8 (n8 ((lf H 0) 0)) | 3=>u = .int .u8 (n8 ((lf H 0) 0 &&& 248)) | 4=>u = .pointer (some ⟨s,0,none⟩) | 5=>u = .pointer (some ⟨s,0 * 1,none⟩) | _=>True) [(tk (none) s 35 (some 6) (fun u=>u = .agg (pc (lf H 0) (lf H 32))) (fun u=>u = .agg (pc (updb (lf H 0) 0 ((lf H 0) 0 &&& 248)) (lf H 32))))] W3) qr9 [(14,0),(15,1),(16,2),(17,3),(18,4),(19,5)] 28 rfl (by kernel_rfl) (InvE.start0 (Inv.start0 hok (by
   simp only [zD,zE,zF,zG,zH]
   exact fun _=>R_s))) ⟨?_,?_,?_,?_,?_,?_,?_,trivial⟩ ?_
 ·exact eV hE fun L v w D N I=>qal rfl rfl fSE0 ⟨rfl,Ext.refl _⟩
 ·exact eV hE fun L v w D N I=>qa3 _ _ _ _ rfl s 0 1 32 .i64 (I.inv.val 0 (D 0 rfl)) rfl u22 (by decide) i5_ ⟨rfl,Ext.refl _⟩
 ·exact eV hE fun L v w D N I=>ld_Sb 0 (by decide) (I.inv.old 0 rfl (N 6 rfl)) _ rfl (I.inv.val 1 (D 1 rfl)) ldK
 ·exact eV hE fun L v w D N I=>g_and _ _ _ _ _ rfl (I.inv.val 2 (D 2 rfl)) rfl ⟨rfl,Ext.refl _⟩
 ·exact eV hE fun L v w D N I=>qal rfl rfl fSE0 ⟨rfl,Ext.refl _⟩
 ·exact eV hE fun L v w D N I=>qa3 _ _ _ _ rfl s 0 1 32 .i64 (I.inv.val 4 (D 4 rfl)) rfl u22 (by decide) i5_ ⟨rfl,Ext.refl _⟩
 ·exact qhb 0 hE rfl rfl rfl rfl rfl rfl rfl hok fun L v w D I cs hR ho=>st_Sb 0 (by decide) _ hR ho _ _ rfl (I.inv.val 5 (D 5 rfl)) (I.inv.val 3 (D 3 rfl)) fun _ c a b k=>⟨trivial,k,c,a,b⟩
 intro L v4 W4 hL hIE
 have hI:=hIE.inv
 replace R_b:=R_b.keep1 hI.keep ne_b_s
 replace R_r:=R_r.keep1 hI.keep ne_r_s
 replace R_h:=R_h.keep1 hI.keep ne_h_s
 replace R_s:=hI.new 0 rfl (hL 6 (by decide))
 replace lt_r:=ltk lt_r hI.keep.size
 replace lt_s:=ltk lt_s hI.keep.size
 replace hx:=hx.keep1 hI.keep bs_s
 clear hI hIE hL hE L hok
 simp only [putP,Act.put,zA,zB,zC]
 go_upto_region 4 with fail
 have hok : TrsOk [s] W4.heap.size ([(tk (none) s 35 (some 7) (fun u=>u = .agg (pc (updb (lf H 0) 0 ((lf H 0) 0 &&& 248)) (lf H 32))) (fun u=>u = .agg (pc (updb (updb (lf H 0) 0 ((lf H 0) 0 &&& 248)) 31 ((updb (lf H 0) 0 ((lf H 0) 0 &&& 248)) 31 &&& 63 ||| 64)) (lf H 32))))] : List Trk):=⟨by simp [tk,R_s.lt],by simp [tk],by simp [tk],by simp [tk]⟩
 have hE:=hE0 [35]
 refine qac (InvE [35] [] [s] (fun j u=>match j with | 0=>u = .pointer (some ⟨s,0,none⟩) | 1=>u = .pointer (some ⟨s,31 * 1,none⟩) | 2=>u = .int .u8 (n8 ((updb (lf H 0) 0 ((lf H 0) 0 &&& 248)) 31)) | 3=>u = .int .u8 (n8 ((updb (lf H 0) 0 ((lf H 0) 0 &&& 248)) 31 &&& 63)) | 4=>u = .int .u8 (n8 ((updb (lf H 0) 0 ((lf H 0) 0 &&& 248)) 31 &&& 63 ||| 64)) | 5=>u = .pointer (some ⟨s,0,none⟩) | 6=>u = .pointer (some ⟨s,31 * 1,none⟩) | _=>True) [(tk (none) s 35 (some 7) (fun u=>u = .agg (pc (updb (lf H 0) 0 ((lf H 0) 0 &&& 248)) (lf H 32))) (fun u=>u = .agg (pc (updb (updb (lf H 0) 0 ((lf H 0) 0 &&& 248)) 31 ((updb (lf H 0) 0 ((lf H 0) 0 &&& 248)) 31 &&& 63 ||| 64)) (lf H 32))))] W4) qsa [(20,0),(21,1),(22,2),(23,3),(24,4),(25,5),(26,6)] 28 rfl (by kernel_rfl) (InvE.start0 (Inv.start0 hok (by
   simp only [zD,zE,zF,zG,zH]
   exact fun _=>R_s))) ⟨?_,?_,?_,?_,?_,?_,?_,?_,trivial⟩ ?_
 ·exact eV hE fun L v w D N I=>qal rfl rfl fSE0 ⟨rfl,Ext.refl _⟩
 ·exact eV hE fun L v w D N I=>qa3 _ _ _ _ rfl s 31 1 32 .i64 (I.inv.val 0 (D 0 rfl)) rfl u22 (by decide) i5_ ⟨rfl,Ext.refl _⟩
 ·exact eV hE fun L v w D N I=>ld_Sb 31 (by decide) (I.inv.old 0 rfl (N 7 rfl)) _ rfl (I.inv.val 1 (D 1 rfl)) ldK
 ·exact eV hE fun L v w D N I=>g_and _ _ _ _ _ rfl (I.inv.val 2 (D 2 rfl)) rfl ⟨rfl,Ext.refl _⟩
 ·exact eV hE fun L v w D N I=>g_or _ _ _ _ _ rfl (I.inv.val 3 (D 3 rfl)) rfl ⟨rfl,Ext.refl _⟩
 ·exact eV hE fun L v w D N I=>qal rfl rfl fSE0 ⟨rfl,Ext.refl _⟩
 ·exact eV hE fun L v w D N I=>qa3 _ _ _ _ rfl s 31 1 32 .i64 (I.inv.val 5 (D 5 rfl)) rfl u22 (by decide) i5_ ⟨rfl,Ext.refl _⟩
 ·exact qhb 0 hE rfl rfl rfl rfl rfl rfl rfl hok fun L v w D I cs hR ho=>st_Sb 31 (by decide) _ hR ho _ _ rfl (I.inv.val 6 (D 6 rfl)) (I.inv.val 4 (D 4 rfl)) fun _ c a b k=>⟨trivial,k,c,a,b⟩
 intro L v5 W5 hL hIE
 have hI:=hIE.inv
 replace R_b:=R_b.keep1 hI.keep ne_b_s
 replace R_r:=R_r.keep1 hI.keep ne_r_s
 replace R_h:=R_h.keep1 hI.keep ne_h_s
 replace R_s:=hI.new 0 rfl (hL 7 (by decide))
 replace lt_r:=ltk lt_r hI.keep.size
 replace lt_s:=ltk lt_s hI.keep.size
 replace hx:=hx.keep1 hI.keep bs_s
 clear hI hIE hL hE L hok
 simp only [putP,Act.put,zA,zB,zC]
 go_upto_region 5 with fail
 have hok : TrsOk [r] W5.heap.size ([(tk (none) r 35 (some 1) (sz 64) (fun u=>u = .agg (pc (updb (updb (lf H 0) 0 ((lf H 0) 0 &&& 248)) 31 ((updb (lf H 0) 0 ((lf H 0) 0 &&& 248)) 31 &&& 63 ||| 64)) (lf H 32))))] : List Trk):=⟨by simp [tk,R_r.lt],by simp [tk],by simp [tk],by simp [tk]⟩
 have hE:=hE0 [35]
 refine qac (InvE [35] [] [r] (fun j u=>match j with | 0=>u = .agg (pc (updb (updb (lf H 0) 0 ((lf H 0) 0 &&& 248)) 31 ((updb (lf H 0) 0 ((lf H 0) 0 &&& 248)) 31 &&& 63 ||| 64)) (lf H 32)) | _=>True) [(tk (none) r 35 (some 1) (sz 64) (fun u=>u = .agg (pc (updb (updb (lf H 0) 0 ((lf H 0) 0 &&& 248)) 31 ((updb (lf H 0) 0 ((lf H 0) 0 &&& 248)) 31 &&& 63 ||| 64)) (lf H 32))))] W5) qsb [(27,0)] 28 rfl (by kernel_rfl) (InvE.start0 (Inv.start0 hok (by
   simp only [zD,zE,zF,zG,zH]
   exact fun _=>R_r))) ⟨?_,?_,trivial⟩ ?_
 ·exact eV hE fun L v w D N I=>ld_S (R_s.keep1 I.inv.keep (Ne.symm ne_r_s)) _ rfl rfl ldK
 ·exact qhb 0 hE rfl rfl rfl rfl rfl rfl rfl hok fun L v w D I cs hR ho=>st_S hR (qaq ho) _ _ rfl rfl (I.inv.val 0 (D 0 rfl)) fun _ c a b k=>⟨trivial,k,c,a,b⟩
 intro L v6 W6 hL hIE
 have hI:=hIE.inv
 replace R_b:=R_b.keep1 hI.keep ne_b_r
 replace R_h:=R_h.keep1 hI.keep (Ne.symm ne_r_h)
 replace R_s:=R_s.keep1 hI.keep (Ne.symm ne_r_s)
 replace R_r:=hI.new 0 rfl (hL 1 (by decide))
 replace lt_r:=ltk lt_r hI.keep.size
 replace lt_s:=ltk lt_s hI.keep.size
 replace hx:=hx.keep1 hI.keep bs_r
 clear hI hIE hL hE L hok
 simp only [putP,Act.put,zA,zB,zC]
 go_wp2
 refine bodyPost_ret (qpw rfl _ R_r rfl) rfl ⟨?_,hx⟩
 exact congrArg (fun z=>Ending.returned (.agg z)) (pc_congr (sNum_is H))
end Go.Proofs.YtgeihelkkhjjaaaGreatDoor
end
section
namespace Go.Proofs.YtgeihelkkhjjaaaGreatDoor
open Go.RowKit Go.Cv Go.Cv.Pr Go.Cv.Grp Go.Cv.Hash
section
variable {w : World} {o : Oper} {ev : Operand→Value} {R : Value→World→Prop} {n : Nat} {f g : Nat→UInt8} {l : List UInt8} {A : Option Addr} {c : Nat}
theorem sdig1 (A : Option Addr) (n c : Nat) (m : List UInt8) (g : Nat) (A' : Option Addr) (n' c' : Nat) (l : List UInt8) (w : World) (hm : m.length = n) (hnc : n ≤ c) (hr : Rd w A (m.map bv)) (hR : Row w g 23 [.slice A' n' c']) (hl : l.length = n') (hc' : n' ≤ c') (hr' : Rd w A' (l.map bv)) (bnd : n + n' ≤ 5000000) (hT : Tab64 w) :
  Calls Tryz.prog 16 #[.slice A n c,.slice (some ⟨g,0,none⟩) 1 1] w fun e w'=>e = .returned (.agg (qab (sDig (m ++ l))))∧Ext w w':=by
 have e : [l].flatten = l:=by simp
 have h:=qmw A n c m (some ⟨g,0,none⟩) 1 1 _ [l] w hm hnc hr (Rd.row hR) rfl (qiq.one hl hc' hr') (by decide) (by rw [e,hl];exact bnd) hT
 rwa [e] at h
theorem sdig2 (A : Option Addr) (n c : Nat) (m : List UInt8) (g : Nat) (A' : Option Addr) (n' c' : Nat) (l : List UInt8) (A2 : Option Addr) (n2 c2 : Nat) (l2 : List UInt8) (w : World) (hm : m.length = n) (hnc : n ≤ c) (hr : Rd w A (m.map bv)) (hR : Row w g 23 [.slice A' n' c',.slice A2 n2 c2]) (hl : l.length = n') (hc' : n' ≤ c') (hr' : Rd w A' (l.map bv)) (hl2 : l2.length = n2) (hc2 : n2 ≤ c2) (hr2 : Rd w A2 (l2.map bv)) (bnd : n + (n' + n2) ≤ 5000000) (hT : Tab64 w) :
  Calls Tryz.prog 16 #[.slice A n c,.slice (some ⟨g,0,none⟩) 2 2] w fun e w'=>e = .returned (.agg (qab (sDig (m ++ (l ++ l2)))))∧Ext w w':=by
 have e : [l,l2].flatten = l ++ l2:=by simp
 have h:=qmw A n c m (some ⟨g,0,none⟩) 2 2 _ [l,l2] w hm hnc hr (Rd.row hR) rfl (qiq.two hl hc' hr' hl2 hc2 hr2) (by decide) (by rw [e,List.length_append,hl,hl2];exact bnd) hT
 rwa [e] at h
theorem give_bs1 (p : Operand) (ho : o.op = .buildSlice 66 1 #[(0,p)]) (hx : ev p = .slice A n c) (h : R (.slice (some ⟨w.heap.size,0,none⟩) 1 1) (w.alloc (.cells (List.toArray [.slice A n c]) 23))) : qak Tryz.prog R ((execOp ev o).run Tryz.prog w):=by
 unfold execOp
 simp only [ho,List.map_toArray,List.map_cons,List.map_nil,hx]
 go_simp
 exact h
theorem qjz {A' : Option Addr} {n' c' : Nat} (p q : Operand) (ho : o.op = .buildSlice 66 2 #[(0,p),(1,q)]) (hx : ev p = .slice A n c) (hy : ev q = .slice A' n' c') (h : R (.slice (some ⟨w.heap.size,0,none⟩) 2 2) (w.alloc (.cells (List.toArray [.slice A n c,.slice A' n' c']) 23))) : qak Tryz.prog R ((execOp ev o).run Tryz.prog w):=by
 unfold execOp
 simp only [ho,List.map_toArray,List.map_cons,List.map_nil,hx,hy]
 go_simp
 exact h
theorem qok {B : Option Addr} {d : Nat} (p q : Operand) (ho : o.op = .call { callee:=.builtin .append,args:=#[p,q],argTypes:=#[23,23] }) (x y : List UInt8) (hp : ev p = .slice A 32 32) (hq : ev q = .slice B 32 d) (hx : x.length = 32) (hy : y.length = 32) (hrx : Rd w A (x.map bv)) (hry : Rd w B (y.map bv))
  (h : ∀ u w',slE 5 (fun g cs u=>(∃ c,u = .slice (some ⟨g,0,none⟩) 64 c)∧cs.take 64 = (x ++ y).map bv) u w'→Ext w w'→R u w') : qak Tryz.prog R ((execOp ev o).run Tryz.prog w):=by
 obtain ⟨ht,z,i,hi,hz,hsize,hby,hzs⟩:=qbj
 obtain ⟨v',w',hrun,hown,hext,-⟩:=qft (P:=Tryz.prog) w 23 o.type 5 i z 1 ht hi hz hsize hby hzs A 32 32 _ (by simpa using hx) hrx B 32 d _ (by simpa using hy) hry (by decide) (by decide) (by decide)
 unfold execOp
 simp only [ho,resolve,invoke,builtin,Sem.run_bind,Sem.run_pure,Result.andThen_ok,List.map_toArray,List.map_cons,List.map_nil,hp,hq,hrun]
 refine h v' w' ?_ hext
 rcases hown.2 with ⟨_,h0⟩ | ⟨g,cap,cur,hv,_,hh,_,_,_,hxs⟩
 ·exact absurd h0 (by decide)
 ·refine ⟨g,cur.toList,by unfold Row;rw [Array.toArray_toList];exact hh,⟨cap,hv⟩,?_⟩
  rw [List.map_append]
  exact hxs
theorem ld_E64 {g : Nat} {T : TypeId} {cs : List Value} (hr : Row w g T cs) (ht : cs.take 64 = l.map bv) (hl : l.length = 64) (p : Operand) (ho : o.op = .load 26 p) (hx : ev p = .pointer (some ⟨g,0,none⟩)) (h : ∀ u,u = h64 l→R u w) : qak Tryz.prog R ((execOp ev o).run Tryz.prog w) :=
 qa2 _ p ho g 0 hx hr (l.map bv) (by rw [List.length_map,hl,List.drop_zero];exact ht) _ u64a rfl (by rw [List.length_map,hl];exact qi1) (h _ rfl)
theorem qiw {A2 : Option Addr} (p : Operand) (ho : o.op = .slice 23 p (some (.const (.int .i64 32))) none none) (hc : ev (.const (.int .i64 32)) = .int .i64 32) (hx : ev p = .slice A 64 c) (h64c : 64 ≤ c) (hA : cutA A 32 c 1 = A2) (h : R (.slice A2 32 (c - 32)) w) : qak Tryz.prog R ((execOp ev o).run Tryz.prog w):=by
 subst hA
 have hcI : (64 : Int) ≤ (c : Int):=by omega
 unfold execOp
 simp only [ho,hx,Option.map_none,Option.map_some,hc]
 go_simp
 exact h
theorem qph (p : Operand) (ho : o.op = .slice 23 p none (some (.const (.int .i64 32))) none) (hc : ev (.const (.int .i64 32)) = .int .i64 32) (hx : ev p = .slice A 64 c) (h64c : 64 ≤ c) (h : R (.slice A 32 c) w) : qak Tryz.prog R ((execOp ev o).run Tryz.prog w):=by
 have hcI : (64 : Int) ≤ (c : Int):=by omega
 have hcI2 : (32 : Int) ≤ (c : Int):=by omega
 unfold execOp
 simp only [ho,hx,Option.map_none,Option.map_some,hc]
 go_simp
 exact h
theorem qdl (p : Operand) (ho : o.op = .call { callee:=.builtin .len,args:=#[p],argTypes:=#[23] }) (hx : ev p = .slice A n c) (h : R (.int .i64 (n : Int)) w) : qak Tryz.prog R ((execOp ev o).run Tryz.prog w):=by
 unfold execOp
 simp only [ho,resolve,invoke,builtin,List.map_toArray,List.map_cons,List.map_nil,hx]
 go_simp
 exact h
theorem qdk (p q : Operand) (t : TypeId) (x y : Int) (b : Bool) (ho : o.op = .binOp .neq 3 p q t) (hx : ev p = .int .i64 x) (hy : ev q = .int .i64 y) (hb : decide (x ≠ y) = b) (h : R (.bool b) w) : qak Tryz.prog R ((execOp ev o).run Tryz.prog w):=by
 subst hb
 unfold execOp
 simp only [ho,hx,hy]
 go_simp
 first | exact h | (simp only [decide_not] at h;exact h)
end
theorem qn6 (A : Option Addr) (n c : Nat) (l : List UInt8) (B : Option Addr) (m d : Nat) (k : List UInt8) (w : World) (hl : l.length = n) (hr : Rd w A (l.map bv)) (hk : k.length = m) (hr2 : Rd w B (k.map bv)) :
  Calls Tryz.prog 28 #[.slice A n c,.slice B m d] w fun e w'=>e = .returned (.bool (l == k))∧Ext w w':=by
 have hcv1:=qfs (P:=Tryz.prog) w 23 9 5 Tryz.underlying23 Tryz.underlying5 Tryz.underlying9 A n c l hl hr
 have hcv2:=qfs (P:=Tryz.prog) w 23 9 5 Tryz.underlying23 Tryz.underlying5 Tryz.underlying9 B m d k hk hr2
 clear hl hk
 have e : decide ((⟨l.toArray⟩ : ByteArray) = ⟨k.toArray⟩) = (l == k):=by
  rw [Bool.eq_iff_iff,decide_eq_true_iff,beq_iff_eq,ByteArray.mk.injEq]
  exact ⟨fun h=>by simpa using congrArg Array.toList h,fun h=>by rw [h]⟩
 go_enter Tryz.func28,Tryz.ntmps28
 go_wp2
 go_ret
 rw [← e]
 exact ⟨rfl,Ext.refl _⟩
end Go.Proofs.YtgeihelkkhjjaaaGreatDoor
end
