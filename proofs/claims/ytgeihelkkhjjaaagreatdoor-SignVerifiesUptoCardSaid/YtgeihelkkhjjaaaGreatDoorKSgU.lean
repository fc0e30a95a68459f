/-
  Texts of the lemmas below the claim, put together: SgU SgG SgJ.
-/
import Derived.Test.YtgeihelkkhjjaaaGreatDoorKSgH
import Derived.Test.YtgeihelkkhjjaaaGreatDoorKSgD
import Derived.Test.YtgeihelkkhjjaaaGreatDoorKSgM
set_option linter.unusedSimpArgs false
set_option linter.unusedVariables false
set_option maxRecDepth 20000
set_option maxHeartbeats 16000000
section
namespace Go.Proofs.YtgeihelkkhjjaaaGreatDoor
open Go.RowKit Go.Cv Go.Cv.Pr Go.Cv.Grp Go.Cv.Hash
section
variable {w : World} {o : Oper} {ev : Operand→Value} {R : Value→World→Prop} {n : Nat} {b : UInt8} {c : Nat} {cs : List Value}
end
end Go.Proofs.YtgeihelkkhjjaaaGreatDoor
end
section
namespace Go.Proofs.YtgeihelkkhjjaaaGreatDoor
open Go.RowKit Go.Cv Go.Cv.Pr Go.Cv.Grp Go.Cv.Hash
def qv5 : List Plan:=[⟨[],[]⟩]
def qv6 : List Plan:=[⟨[],[]⟩]
def qv7 : List Plan:=[⟨[],[]⟩,⟨[0],[(15,0)]⟩]
theorem qjm (A : Option Addr) (n c : Nat) (l : List UInt8) (w : World) (hl : l.length = n) (h32 : 32 ≤ n) (hr : Rd w A (l.map bv)) :
  Calls Tryz.prog 25 #[.slice A n c] w fun e w'=>e = .returned (.agg (qab (lf l 0)))∧Ext w w':=by
 have HL:=Lib.hid hl
 clear hl
 go_enter Tryz.func25,Tryz.ntmps25
 go_upto_region 0 with fail
 have hx : Ext w w:=Ext.refl w
 have hok : TrsOk [] w.heap.size ([(tk (some 0) 0 22 (none) (sz 32) (fun _=>True))] : List Trk):=⟨by simp [tk],by simp [tk],by simp [tk],by simp [tk]⟩
 have hE:=hE0 []
 refine qac (InvE [] [] [] (fun _ _=>True) [(tk (some 0) 0 22 (none) (sz 32) (fun _=>True))] w) qv5 [(2,0)] 16 rfl (by kernel_rfl) (InvE.start0 (Inv.start0 hok (by simp))) ⟨?_,trivial⟩ ?_
 ·exact qb3 0 hE rfl rfl rfl rfl rfl rfl hok fun L v w D I=>al_B rfl fun c h=>⟨trivial,rfl,c,rfl,qa5 c h⟩
 intro L v1 W1 hL hIE
 have hI:=hIE.inv
 obtain ⟨r,hb_r,lo_r,R_r⟩:=hI.made0 0 rfl (hL 0 (by decide))
 have bs_r:=Nat.le_trans hx.size lo_r
 have lt_r:=R_r.lt
 have hxr:=hI.keep.to_ext
 replace hx:=hx.trans hxr
 clear hI hIE hL hE L hok hxr
 simp only [putP,Act.put,zA,zB,zC,hb_r]
 go_upto_region 1 with fail
 have hok : TrsOk [] W1.heap.size ([(tk (some 0) 0 22 (none) (fun u=>u = .agg (qab (fun _=>0))) (fun _=>True))] : List Trk):=⟨by simp [tk],by simp [tk],by simp [tk],by simp [tk]⟩
 have hE:=hE0 []
 refine qac (InvE [] [] [] (fun _ _=>True) [(tk (some 0) 0 22 (none) (fun u=>u = .agg (qab (fun _=>0))) (fun _=>True))] W1) qv6 [(3,0)] 16 rfl (by kernel_rfl) (InvE.start0 (Inv.start0 hok (by simp))) ⟨?_,trivial⟩ ?_
 ·exact qb3 0 hE rfl rfl rfl rfl rfl rfl hok fun L v w D I=>al0_B rfl ⟨trivial,rfl,_,rfl,rfl⟩
 intro L v2 W2 hL hIE
 have hI:=hIE.inv
 obtain ⟨b,hb_b,lo_b,R_b⟩:=hI.made0 0 rfl (hL 0 (by decide))
 replace R_r:=R_r.keep0 hI.keep
 have ne_r_b:=Nat.ne_of_lt (Nat.lt_of_lt_of_le lt_r lo_b)
 replace lt_r:=ltk lt_r hI.keep.size
 have bs_b:=Nat.le_trans hx.size lo_b
 have lt_b:=R_b.lt
 have hxr:=hI.keep.to_ext
 replace hx:=hx.trans hxr
 clear hI hIE hL hE L hok hxr
 simp only [putP,Act.put,zA,zB,zC,hb_b]
 go_wp2
 go_loopw [4] (fun t4 wr=>∃ (i : Nat) (g : Nat→UInt8),i ≤ 32∧t4 = .int .i64 i∧RV wr b 22 (fun u=>u = .agg (qab g))∧Hid (∀ j,j < i→g j = lf l 0 j)∧Keep [b] W2 wr) (fun t4 _=>32 - (intOf t4).toNat)
 case atStart=>exact ⟨0,_,by decide,rfl,R_b,Lib.hid (fun j hj=>absurd hj (Nat.not_lt_zero j)),Keep.refl _ _⟩
 case round =>
  obtain ⟨i,g,hi,rfl,hR,hg,hk⟩:=hrel
  have hxr:=hx.keep1 hk bs_b
  by_cases h1 : i < 32
  ·have h1' : (i : Int) < 32:=by omega
   have hni : i < n:=by omega
   have hnI : (i : Int) < (n : Int):=by omega
   have hil : i < l.length:=by rw [HL.out];exact hni
   obtain ⟨ad,rfl,hcell⟩:=(hr.ext hxr).at_ (k:=i) (by rw [List.length_map];exact hil)
   rw [List.getElem_map] at hcell
   have hgi : Hid (∀ j,j < i + 1→updb g i l[i] j = lf l 0 j):=Lib.hid (fun j hj=>by
    unfold updb
    by_cases e : j = i
    ·rw [if_pos e,e]
     unfold lf
     rw [Nat.zero_add,List.getD_eq_getElem?_getD,List.getElem?_eq_getElem hil];rfl
    ·rw [if_neg e];exact hg.out j (by omega))
   have hR2:=hR.set i l[i]
   have hk2 : Keep [b] wr (wr.setCell ⟨b,i,none⟩ (.int .u8 (n8 l[i]))):=Keep.setCell wr ⟨b,i,none⟩ _
   generalize l[i]'hil = y at *
   have hcc:=hR.byte h1
   have hff:=hR.fro i
   clear hg R_r R_b
   go_wp2
   exact ⟨⟨i + 1,updb g i y,by omega,by go_num,hR2,hgi,hk.same hk2⟩,by simp [intOf];omega⟩
  ·obtain rfl : i = 32:=by omega
   have R_b2:=hR
   replace R_r:=R_r.keep1 hk (by simpa using ne_r_b)
   replace hx:=hxr
   clear R_b
   have R_b:=R_b2
   clear R_b2 hR
   have lt_r2:=R_r.lt
   have lt_b2:=R_b.lt
   replace lt_r:=lt_r2
   replace lt_b:=lt_b2
   clear lt_r2 lt_b2 hk hxr
   go_upto_region 6 with fail
   have hok : TrsOk [r] wr.heap.size ([(tk (none) r 22 (some 1) (sz 32) (fun u=>u = .agg (qab (g))))] : List Trk):=⟨by simp [tk,R_r.lt],by simp [tk],by simp [tk],by simp [tk]⟩
   have hE : ∀ p ∈ ([] : List (Nat × (Value→World→Prop))),qck [22] p.2:=fun p hp=>by cases hp
   refine qac (InvE [22] [] [r] (fun j u=>match j with | 0=>u = .agg (qab (g)) | _=>True) [(tk (none) r 22 (some 1) (sz 32) (fun u=>u = .agg (qab (g))))] wr) qv7 [(15,0)] 16 rfl (by kernel_rfl) (InvE.start0 (Inv.start0 hok (by
     simp only [zD,zE,zF,zG,zH]
     exact fun _=>R_r))) ⟨?_,?_,trivial⟩ ?_
   ·exact eV hE fun L v w D N I=>ld_B (R_b.keep1 I.inv.keep (Ne.symm ne_r_b)) _ rfl rfl ldK
   ·exact qhb 0 hE rfl rfl rfl rfl rfl rfl rfl hok fun L v w D I cs hR ho=>st_B hR (qaq ho) _ _ rfl rfl (I.inv.val 0 (D 0 rfl)) fun _ c a b k=>⟨trivial,k,c,a,b⟩
   intro L v3 W3 hL hIE
   have hI:=hIE.inv
   replace R_b:=R_b.keep1 hI.keep (Ne.symm ne_r_b)
   replace R_r:=hI.new 0 rfl (hL 1 (by decide))
   replace lt_r:=ltk lt_r hI.keep.size
   replace lt_b:=ltk lt_b hI.keep.size
   replace hx:=hx.keep1 hI.keep bs_r
   clear hI hIE hL hE L hok
   simp only [putP,Act.put,zA,zB,zC]
   go_wp2
   refine bodyPost_ret (qcs rfl _ R_r rfl) rfl ⟨?_,hx⟩
   rw [qbm hg.out]
end Go.Proofs.YtgeihelkkhjjaaaGreatDoor
end
section
namespace Go.Proofs.YtgeihelkkhjjaaaGreatDoor
open Go.RowKit Go.Cv Go.Cv.Pr Go.Cv.Grp Go.Cv.Hash
section
variable {w : World} {o : Oper} {ev : Operand→Value} {R : Value→World→Prop}
end
theorem rsum_any (A : Option Addr) (n c : Nat) (l : List UInt8) (w : World) (hl : l.length = n) (hnc : n ≤ c) (hr : Rd w A (l.map bv)) (bnd : n ≤ 5000000) :
  Calls Tryz.prog 22 #[.slice A n c] w fun e w'=>∃ g q,e = .returned (.slice (some ⟨g,0,none⟩) 64 q)∧Rd w' (some ⟨g,0,none⟩) ((Hash.hash64 l).map bv)∧Ext w w' :=
 (qoa A n c l w hl hnc hr bnd).mono fun e w2 ⟨v,he,ho,hx⟩=>by
  obtain ⟨g,q,cs,rfl,hg,hq,hR,ht,hcs⟩:=own_rw ho (by decide)
  have h:=(hR.rd 0).tk 64
  rw [List.drop_zero,ht] at h
  exact ⟨g,q,he,h,hx⟩
end Go.Proofs.YtgeihelkkhjjaaaGreatDoor
end
