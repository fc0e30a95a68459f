/-
  Texts of the lemmas below the claim, put together: Stn AnsE.
-/
import Derived.Test.YtgeihelkkhjjaaaGreatDoorKGiv
import Derived.Test.YtgeihelkkhjjaaaGreatDoorKStp
import Derived.Test.YtgeihelkkhjjaaaGreatDoorKPt
set_option linter.unusedSimpArgs false
set_option linter.unusedVariables false
set_option maxRecDepth 20000
set_option maxHeartbeats 8000000
section
namespace Go.Cv
open Go Go.RowKit
def InvF (s : Nat) (R : (Nat→Value)→World→Prop) (I : (Nat→Bool)→(Nat→Value)→World→Prop) (L : Nat→Bool) (v : Nat→Value) (w : World) : Prop:=if L s = true then R v w else I L v w
section
variable {s i : Nat} {R : (Nat→Value)→World→Prop} {I : (Nat→Bool)→(Nat→Value)→World→Prop} {L : Nat→Bool} {v : Nat→Value} {w : World}
theorem InvF.start (h : I (fun _=>false) v w) : InvF s R I (fun _=>false) v w:=by
 unfold InvF
 rw [if_neg (by simp)]
 exact h
theorem InvF.step {pl : List Plan} (hI : InvF s R I L v w) (hL : L i = false) (hC : ∀ j,L j = true→∀ d ∈ qaw pl j,L d = true) (hd : (qaw pl s).contains i = true) (hne : i ≠ s) :
  I L v w∧∀ u w',I (setB L i) (setV v i u) w'→InvF s R I (setB L i) (setV v i u) w':=by
 have hs : ¬ L s = true:=fun h=>by
  have:=hC s h i (by simpa using hd)
  rw [hL] at this;cases this
 unfold InvF at hI
 rw [if_neg hs] at hI
 refine ⟨hI,fun u w' h=>?_⟩
 unfold InvF
 rw [qa6 (Ne.symm hne),if_neg hs]
 exact h
theorem InvF.last (hI : InvF s R I L v w) (hL : L s = false) : I L v w∧∀ u w',R (setV v s u) w'→InvF s R I (setB L s) (setV v s u) w':=by
 unfold InvF at hI
 rw [if_neg (by rw [hL];simp)] at hI
 refine ⟨hI,fun u w' h=>?_⟩
 unfold InvF
 rw [qdb,if_pos rfl]
 exact h
theorem InvF.fin (hI : InvF s R I L v w) (hL : L s = true) : R v w:=by
 unfold InvF at hI
 rwa [if_pos hL] at hI
theorem qb9 {P : Program} {pl : List Plan} {a0 : Act} {o : Oper} (hd : (qaw pl s).contains i = true) (hne : (i != s) = true) (hg : o.guard = none) (h : Step P pl a0 I i o) : Step P pl a0 (InvF s R I) i o:=by
 intro L v w hL hD hC hI
 obtain ⟨hI,hF⟩:=hI.step hL hC hd (by simpa using hne)
 refine ⟨fun hw=>((h L v w hL hD hC hI).1 hw).mono hF,fun hw=>?_⟩
 unfold qbq at hw
 rw [hg] at hw
 cases hw
end
end Go.Cv
namespace Go.Proofs.YtgeihelkkhjjaaaGreatDoor
open Go.RowKit Go.Cv Go.Cv.Pr Go.Cv.Grp
section
variable {P : Program} {ns : List Nat} {VF : Nat→Value→Prop} {NV : Nat→Option F7} {PV : Nat→Option P7} {trs : List Trk} {w0 : World} {pl : List Plan} {a0 : Act} {i : Nat} {o : Oper}
theorem qq1 (hna : (trs.all fun t=>t.al != some i && t.st != some i) = true) : ∀ t ∈ trs,t.al ≠ some i∧t.st ≠ some i:=by
 intro t ht
 have:=List.all_eq_true.1 hna t ht
 simpa using this
theorem qay (hg : o.guard = none) (hna : (trs.all fun t=>t.al != some i && t.st != some i) = true) (hN : NV i = none) (hP : PV i = none)
  (h : ∀ (L : Nat→Bool) v w,(∀ d,(qaw pl i).contains d = true→L d = true)→(∀ s,(qaw pl s).contains i = true→L s = false)→InvN ns VF NV PV trs w0 L v w→qak P (fun u w'=>VF i u∧Ext w w') ((execOp (putP (qaj pl i) v a0).eval o).run P w)) :
  Step P pl a0 (InvN ns VF NV PV trs w0) i o:=by
 intro L v w hL hD hC hI
 refine ⟨fun _=>hI.val0 hL (qq1 hna) hN hP (h L v w (fun d hd=>hD d (List.contains_iff_mem.1 hd)) (nyet hC hL) hI),fun hw=>?_⟩
 unfold qbq at hw
 rw [hg] at hw
 cases hw
theorem qap (X : F7) (hg : o.guard = none) (hna : (trs.all fun t=>t.al != some i && t.st != some i) = true) (hN : NV i = some X) (hP : PV i = none) (hV : ∀ u,VF i u)
  (h : ∀ (L : Nat→Bool) v w,(∀ d,(qaw pl i).contains d = true→L d = true)→(∀ s,(qaw pl s).contains i = true→L s = false)→InvN ns VF NV PV trs w0 L v w→qak P (fun u w'=>NF w' u X∧Ext w w') ((execOp (putP (qaj pl i) v a0).eval o).run P w)) :
  Step P pl a0 (InvN ns VF NV PV trs w0) i o:=by
 intro L v w hL hD hC hI
 refine ⟨fun _=>hI.numv X hL (qq1 hna) hN hP hV (h L v w (fun d hd=>hD d (List.contains_iff_mem.1 hd)) (nyet hC hL) hI),fun hw=>?_⟩
 unfold qbq at hw
 rw [hg] at hw
 cases hw
theorem qkd (X : P7) (hg : o.guard = none) (hna : (trs.all fun t=>t.al != some i && t.st != some i) = true) (hN : NV i = none) (hP : PV i = some X) (hV : ∀ u,VF i u)
  (h : ∀ (L : Nat→Bool) v w,(∀ d,(qaw pl i).contains d = true→L d = true)→(∀ s,(qaw pl s).contains i = true→L s = false)→InvN ns VF NV PV trs w0 L v w→qak P (fun u w'=>NP w' u X∧Ext w w') ((execOp (putP (qaj pl i) v a0).eval o).run P w)) :
  Step P pl a0 (InvN ns VF NV PV trs w0) i o:=by
 intro L v w hL hD hC hI
 refine ⟨fun _=>hI.ptv X hL (qq1 hna) hN hP hV (h L v w (fun d hd=>hD d (List.contains_iff_mem.1 hd)) (nyet hC hL) hI),fun hw=>?_⟩
 unfold qbq at hw
 rw [hg] at hw
 cases hw
theorem sn_new (k : Nat) {t : Trk} (ht : trs[k]? = some t) (hal : t.al = some i) (hg : o.guard = none) (hnst : (trs.all fun s=>s.st != some i) = true) (hst : (match t.st with | none=>true | some s=>(qaw pl s).contains i) = true) (hN : NV i = none) (hP : PV i = none) (hok : TrsOk ns w0.heap.size trs)
  (h : ∀ (L : Nat→Bool) v w,(∀ d,(qaw pl i).contains d = true→L d = true)→InvN ns VF NV PV trs w0 L v w→qak P (fun u w'=>VF i u∧u = .pointer (some ⟨w.heap.size,0,none⟩)∧∃ cs,w' = w.alloc (.cells (List.toArray cs) t.T)∧t.old cs) ((execOp (putP (qaj pl i) v a0).eval o).run P w)) :
  Step P pl a0 (InvN ns VF NV PV trs w0) i o:=by
 intro L v w hL hD hC hI
 refine ⟨fun _=>InvN.alloc_step hok hI hL t (List.mem_of_getElem? ht) hal ?_ ?_ hN hP (h L v w (fun d hd=>hD d (List.contains_iff_mem.1 hd)) hI),fun hw=>?_⟩
 ·intro s hs
  have:=List.all_eq_true.1 hnst s hs
  simpa using this
 ·intro s hs
  rw [hs] at hst
  exact qia hC hL hst
 ·unfold qbq at hw
  rw [hg] at hw
  cases hw
theorem qfq (k : Nat) {t : Trk} (ht : trs[k]? = some t) (hst : t.st = some i) (hal : t.al = none) (hg : o.guard = none) (hnal : (trs.all fun s=>s.al != some i) = true) (hN : NV i = none) (hP : PV i = none) (hno : ∀ cs,t.old cs→∀ c ∈ cs,noI c = true) (hok : TrsOk ns w0.heap.size trs)
  (h : ∀ (L : Nat→Bool) v w,(∀ d,(qaw pl i).contains d = true→L d = true)→InvN ns VF NV PV trs w0 L v w→∀ cs,Row w t.n0 t.T cs→t.old cs→qak P (fun u w'=>VF i u∧Keep [t.n0] w w'∧∃ cs',Row w' t.n0 t.T cs'∧t.new cs') ((execOp (putP (qaj pl i) v a0).eval o).run P w)) :
  Step P pl a0 (InvN ns VF NV PV trs w0) i o:=by
 intro L v w hL hD hC hI
 refine ⟨fun _=>InvN.store_step hok hI hL t (List.mem_of_getElem? ht) hst ?_ ?_ hN hP hno ?_,fun hw=>?_⟩
 ·intro s hs
  have:=List.all_eq_true.1 hnal s hs
  simpa using this
 ·intro j hj
  rw [hal] at hj;cases hj
 ·intro n cs hb hR ho
  have e : n = t.n0:=by
   unfold Trk.blk at hb
   rw [hal] at hb
   exact hb
  subst e
  exact h L v w (fun d hd=>hD d (List.contains_iff_mem.1 hd)) hI cs hR ho
 ·unfold qbq at hw
  rw [hg] at hw
  cases hw
theorem sn_lay (k a : Nat) {t : Trk} (ht : trs[k]? = some t) (hst : t.st = some i) (hal : t.al = some a) (hg : o.guard = none) (hnal : (trs.all fun s=>s.al != some i) = true) (hd : (qaw pl i).contains a = true) (hN : NV i = none) (hP : PV i = none) (hno : ∀ cs,t.old cs→∀ c ∈ cs,noI c = true) (hok : TrsOk ns w0.heap.size trs)
  (h : ∀ (L : Nat→Bool) v w,(∀ d,(qaw pl i).contains d = true→L d = true)→InvN ns VF NV PV trs w0 L v w→∀ n cs,v a = .pointer (some ⟨n,0,none⟩)→Row w n t.T cs→t.old cs→qak P (fun u w'=>VF i u∧Keep [n] w w'∧∃ cs',Row w' n t.T cs'∧t.new cs') ((execOp (putP (qaj pl i) v a0).eval o).run P w)) :
  Step P pl a0 (InvN ns VF NV PV trs w0) i o:=by
 intro L v w hL hD hC hI
 refine ⟨fun _=>InvN.store_step hok hI hL t (List.mem_of_getElem? ht) hst ?_ ?_ hN hP hno ?_,fun hw=>?_⟩
 ·intro s hs
  have:=List.all_eq_true.1 hnal s hs
  simpa using this
 ·intro j hj
  rw [hal] at hj;injection hj with hj
  subst hj
  exact hD _ (List.contains_iff_mem.1 hd)
 ·intro n cs hb hR ho
  refine h L v w (fun d hd=>hD d (List.contains_iff_mem.1 hd)) hI n cs ?_ hR ho
  unfold Trk.blk at hb
  rw [hal] at hb
  exact hb
 ·unfold qbq at hw
  rw [hg] at hw
  cases hw
end
theorem fR30 : faOk Tryz.prog 57 0 0:=⟨_,_,0,Tryz.underlying57,rfl,rfl,by kernel_rfl⟩
theorem fR31 : faOk Tryz.prog 57 1 1:=⟨_,_,0,Tryz.underlying57,rfl,rfl,by kernel_rfl⟩
theorem fR32 : faOk Tryz.prog 57 2 2:=⟨_,_,0,Tryz.underlying57,rfl,rfl,by kernel_rfl⟩
theorem noP_ {f g : Nat→UInt8} {cs : List Value} (h : Value.agg cs.toArray = .agg (pc f g)) : ∀ c ∈ cs,noI c = true:=by rw [qbz h];exact noI_pc _ _
theorem noB_ {f : Nat→UInt8} {cs : List Value} (h : Value.agg cs.toArray = .agg (qab f)) : ∀ c ∈ cs,noI c = true:=by rw [qgb h];exact noI_b _
section
variable {w : World} {o : Oper} {ev : Operand→Value} {R : Value→World→Prop}
theorem al0_B (ho : o.op = .alloc 22) (h : R (.pointer (some ⟨w.heap.size,0,none⟩)) (w.alloc (.cells (qab fun _=>0).toList.toArray 22))) : qak Tryz.prog R ((execOp ev o).run Tryz.prog w):=by
 unfold execOp
 simp only [ho]
 go_simp
 exact h
theorem qgo : GC 67 := gcOf Tryz.func67 (by kernel_rfl) (by kernel_rfl)
theorem gNAdd : GC 68 := gcOf Tryz.func68 (by kernel_rfl) (by kernel_rfl)
theorem gNSub : GC 61 := gcOf Tryz.func61 (by kernel_rfl) (by kernel_rfl)
theorem gNInv : GC 66 := gcOf Tryz.func66 (by kernel_rfl) (by kernel_rfl)
theorem gNIn : GC 65 := gcOf Tryz.func65 (by kernel_rfl) (by kernel_rfl)
theorem qd5 : GC 50 := gcOf Tryz.func50 (by kernel_rfl) (by kernel_rfl)
theorem gPAdd : GC 40 := gcOf Tryz.func40 (by kernel_rfl) (by kernel_rfl)
theorem gPNou : GC 64 := gcOf Tryz.func64 (by kernel_rfl) (by kernel_rfl)
theorem qmd : GC 43 := gcOf Tryz.func43 (by kernel_rfl) (by kernel_rfl)
theorem gcAdd : GC 58 := gcOf Tryz.func58 (by kernel_rfl) (by kernel_rfl)
theorem gcNeg : GC 57 := gcOf Tryz.func57 (by kernel_rfl) (by kernel_rfl)
theorem gcEnc : GC 45 := gcOf Tryz.func45 (by kernel_rfl) (by kernel_rfl)
theorem gcDec : GC 56 := gcOf Tryz.func56 (by kernel_rfl) (by kernel_rfl)
theorem gcBase : GC 44 := gcOf Tryz.func44 (by kernel_rfl) (by kernel_rfl)
theorem gcMA : GC 18 := gcOf Tryz.func18 (by kernel_rfl) (by kernel_rfl)
end
end Go.Proofs.YtgeihelkkhjjaaaGreatDoor
end
section
namespace Go.Cv
open Go.RowKit Go.Cv.Pr Go.Cv.Grp
theorem RV.newP (w : World) (f g : Nat→UInt8) (T : TypeId) : RV (w.alloc (.cells (pc f g) T)) w.heap.size T (fun u=>u = .agg (pc f g)):=⟨pcL f g,Row.alloc w (pcL f g) T,rfl⟩
theorem add_top (a b : UInt8) (ha : a.toNat < 128) : a + b % (2 : UInt8) * (128 : UInt8) = a ||| b <<< (7 : UInt8):=by
 have h1 : (b <<< 7).toNat = 2 ^ 7 * (b.toNat % 2):=by
  rw [show (b <<< 7).toNat = b.toNat * 2 ^ 7 % 256 from qe2 b 7 (by decide)]
  omega
 apply UInt8.toNat_inj.1
 rw [UInt8.toNat_or,h1,Nat.or_comm,← Nat.two_pow_add_eq_or_of_lt (by simpa using ha),UInt8.toNat_add,UInt8.toNat_mul,UInt8.toNat_mod]
 have e1 : (2 : UInt8).toNat = 2:=rfl
 have e2 : (128 : UInt8).toNat = 128:=rfl
 rw [e1,e2]
 omega
theorem fb_top_ (y : F7) : (fb y 31).toNat < 128:=by
 have h:=y.isLt
 have hp : pp < 2 ^ 255:=by unfold pp;decide
 show (UInt8.ofNat (y.val / 2 ^ (8 * 31))).toNat < 128
 rw [UInt8.toNat_ofNat']
 have : y.val / 2 ^ (8 * 31) < 128:=by
  rw [Nat.div_lt_iff_lt_mul (Nat.two_pow_pos _)]
  exact Nat.lt_trans h (Nat.lt_of_lt_of_le hp (by decide))
 omega
end Go.Cv
namespace Go.Proofs.YtgeihelkkhjjaaaGreatDoor
open Go.RowKit Go.Cv Go.Cv.Pr Go.Cv.Grp Go.Cv.Dig
theorem R3w.new (w : World) (a b c : Value) {X Y Z : F7} (h1 : NF w a X) (h2 : NF w b Y) (h3 : NF w c Z) : R3w (w.alloc (.cells #[a,b,c] 57)) w.heap.size X Y Z :=
 ⟨a,b,c,Row.alloc w [a,b,c] _,h1.ext (qaa _ _),h2.ext (qaa _ _),h3.ext (qaa _ _)⟩
theorem NF.sl {w : World} {v : Value} {x : F7} (h : NF w v x) : ∃ A n c,v = .slice A n c:=by
 obtain ⟨A,n,c,l,h,-⟩:=h
 exact ⟨A,n,c,h⟩
theorem u60 : ∃ fs,Tryz.prog.underlying 57 = some (.struct fs):=⟨_,Tryz.underlying57⟩
theorem i60 : (Tryz.prog.info? 57).map (·.size) = some 3:=by kernel_rfl
theorem qcs {fn : Func} {p : Tmp} (h : fn.results = #[.cell p 22]) (tmps : Array Value) {W : World} {n : Nat} {f : Nat→UInt8} (hR : RV W n 22 (fun u=>u = .agg (qab f)))
  (hp : tmps.getD p undef = .pointer (some ⟨n,0,none⟩)) : (results fn tmps).run Tryz.prog W = .ok (.agg (qab f)) W:=by
 obtain ⟨cs,h1,h2⟩:=hR
 have e:=qgb h2
 subst e
 have:=results_cell_row (P:=Tryz.prog) h tmps W n _ _ (0,0) _ hp h1 u22 rfl (by simpa using i22)
 rwa [Array.toArray_toList] at this
theorem qiy {fn : Func} {p : Tmp} (h : fn.results = #[.cell p 49]) (tmps : Array Value) {W : World} {n : Nat} {f g : Nat→UInt8} (hR : RV W n 49 (fun u=>u = .agg (pc f g)))
  (hp : tmps.getD p undef = .pointer (some ⟨n,0,none⟩)) : (results fn tmps).run Tryz.prog W = .ok (.agg (pc f g)) W:=by
 obtain ⟨cs,h1,h2⟩:=hR
 have e:=qbz h2
 subst e
 obtain ⟨fs,hu⟩:=uPt
 exact results_cell_row (P:=Tryz.prog) h tmps W n _ _ (0,0) _ hp h1 hu rfl (by rw [qb4];exact iPt)
def qtd : List Plan:=[⟨[],[]⟩,⟨[0],[(4,0)]⟩,⟨[0,1],[(5,1)]⟩,⟨[0,1,2],[(6,2)]⟩]
def qte : List Plan:=[⟨[],[]⟩,⟨[0],[(7,0)]⟩,⟨[],[]⟩,⟨[0,1,2],[(8,1),(9,2)]⟩,⟨[0,1,2,3],[(10,3)]⟩,⟨[],[]⟩,⟨[5],[(12,5)]⟩,⟨[],[]⟩,⟨[0,1,2,3,4,5,6,7],[(13,6),(14,7)]⟩,⟨[0,1,2,3,4,5,6,7,8],[(15,8)]⟩,⟨[0,1,2,3,4,5,6,7,8,9],[(11,4),(16,9)]⟩,⟨[0,1,2,3,4,5,6,7,8,9,10],[(17,10)]⟩]
def qtq : List Plan:=[⟨[],[]⟩,⟨[0],[(4,0)]⟩,⟨[0,1],[(5,1)]⟩,⟨[0,1,2],[(6,2)]⟩,⟨[0,1,2,3],[(7,3)]⟩]
def qtr : List Plan:=[⟨[],[]⟩,⟨[0],[(8,0)]⟩,⟨[],[]⟩,⟨[2],[(10,2)]⟩,⟨[0,1,2,3],[(11,3)]⟩,⟨[0,1,2,3,4],[(12,4)]⟩,⟨[0,1,2,3,4,5],[(9,1),(13,5)]⟩,⟨[0,1,2,3,4,5,6],[(14,6)]⟩]
def quu : List Plan:=[⟨[],[]⟩,⟨[0],[(5,0)]⟩,⟨[0,1],[(6,1)]⟩,⟨[0,1,2],[(7,2)]⟩,⟨[],[]⟩,⟨[0,1,2,3,4],[(8,3),(3,4)]⟩]
def quv : List Plan:=[⟨[],[]⟩,⟨[0],[(9,0)]⟩,⟨[0,1],[(10,1)]⟩,⟨[0,1,2],[(11,2)]⟩,⟨[],[]⟩,⟨[0,1,2,3,4],[(12,3),(4,4)]⟩]
def quw : List Plan:=[⟨[],[]⟩,⟨[0],[(21,0)]⟩]
theorem rout {w : World} {v : Value} {P : P7} (h : NP w v P) :
  Calls Tryz.prog 39 #[v] w fun e w'=>e = .returned (.agg (pc (fb P.x) (fb P.y)))∧Ext w w':=by
 obtain ⟨a,b,c,X,Y,Z,rfl,ha,hb,hc,hR3⟩:=h
 obtain ⟨o1,o2⟩:=hR3.out
 replace o1:=Lib.hid o1
 replace o2:=Lib.hid o2
 clear hR3
 go_enter Tryz.func39,Tryz.ntmps39
 go_upto_region 1 with fail
 obtain ⟨E0,hE0⟩ : ∃ W,W = w.alloc (.cells #[a,b,c] 57):=⟨_,rfl⟩
 obtain ⟨E1,hE1⟩ : ∃ W,W = E0.alloc (.cells (pc (fun _=>0) (fun _=>0)) 49):=⟨_,rfl⟩
 rw [← hE0,← hE1]
 have s0 : E0.heap.size = w.heap.size + 1:=by rw [hE0];exact Array.size_push _
 have x0 : Ext w E0:=by rw [hE0];exact qaa _ _
 have s1 : E1.heap.size = w.heap.size + 1 + 1:=by rw [hE1,← s0];exact Array.size_push _
 have x1 : Ext E0 E1:=by rw [hE1];exact qaa _ _
 have R_q:=R3w.new w a b c (ha.ext (Ext.refl w)) (hb.ext (Ext.refl w)) (hc.ext (Ext.refl w))
 rw [← hE0] at R_q
 replace R_q:=R_q.ext x1
 have R_r:=RV.newP E0 (fun _=>0) (fun _=>0) 49
 rw [← hE1] at R_r
 rw [s0] at R_r
 obtain ⟨q,hb0⟩ : ∃ b,b = w.heap.size:=⟨_,rfl⟩
 obtain ⟨r,hb1⟩ : ∃ b,b = w.heap.size + 1:=⟨_,rfl⟩
 rw [← hb1] at R_r
 rw [← hb0] at R_q
 rw [← hb1,← hb0]
 have hx : Ext w E1:=((Ext.refl w).trans x0).trans x1
 have lt_q : q < E1.heap.size:=R_q.lt
 have bs_q : w.heap.size ≤ q:=by omega
 have lt_r : r < E1.heap.size:=R_r.lt
 have bs_r : w.heap.size ≤ r:=by omega
 have ne_q_r : q ≠ r:=by omega
 clear hb0 s0 x0 hE0 hb1 s1 x1 hE1
 clear ha hb hc
 have hok : TrsOk [] E1.heap.size ([] : List Trk):=⟨by simp [tk],by simp [tk],by simp [tk],by simp [tk]⟩
 refine qac (InvN [] (fun j u=>match j with | 0=>u = .pointer (some ⟨q,2,none⟩) | _=>True) (fun j=>match j with | 1=>some (Z) | 2=>some (fiv (Z)) | 3=>some (fiv (Z)) | _=>none) (fun _=>none) [] E1) qtd [(4,0),(5,1),(6,2),(3,3)] 18 rfl (by kernel_rfl) (InvN.of (Inv.start0 hok (by simp))) ⟨?_,?_,?_,?_,trivial⟩ ?_
 ·exact qay rfl rfl rfl rfl fun L v w D N I=>qal rfl rfl fR32 ⟨rfl,Ext.refl _⟩
 ·exact qap _ rfl rfl rfl rfl (fun _=>trivial) fun L v w D N I=>ld_3z (R_q.keep I.inv.keep (by simp) (by simp)) _ rfl (I.inv.val 0 (D 0 rfl)) fun u hu=>⟨hu,Ext.refl _⟩
 ·exact qap _ rfl rfl rfl rfl (fun _=>trivial) fun L v w D N I=>gNInv _ _ rfl rfl (ninv (I.num.n 1 _ (D 1 rfl) rfl))
 ·exact qap _ rfl rfl rfl rfl (fun _=>trivial) fun L v w D N I=>⟨(I.num.n 2 _ (D 2 rfl) rfl),Ext.refl _⟩
 intro L v1 W1 hL hI
 replace R_q:=R_q.keep hI.inv.keep (by simp) (by simp)
 replace R_r:=R_r.keep0 hI.inv.keep
 have hn_3:=hI.num.n 3 _ (hL 3 (by decide)) rfl
 replace lt_q:=ltk lt_q hI.inv.keep.size
 replace lt_r:=ltk lt_r hI.inv.keep.size
 replace hx:=hx.trans hI.inv.keep.to_ext
 clear hI hL hok L
 simp only [putP,Act.put,zA,zB,zC]
 go_upto_region 2 with fail
 have hok : TrsOk [r] W1.heap.size ([(tk (none) r 49 (some 11) (fun u=>u = .agg (pc (fun _=>0) (fun _=>0))) (fun u=>u = .agg (pc (fb ((X) * (fiv (Z)))) (fb ((Y) * (fiv (Z)))))))] : List Trk):=⟨by simp [tk,R_r.lt],by simp [tk],by simp [tk],by simp [tk]⟩
 have noi_r : NoI W1 r:=R_r.noP
 refine qag (InvN [r] (fun j u=>match j with | 0=>u = .pointer (some ⟨q,0,none⟩) | 4=>u = .agg (qab (fb ((X) * (fiv (Z))))) | 5=>u = .pointer (some ⟨q,1,none⟩) | 9=>u = .agg (qab (fb ((Y) * (fiv (Z))))) | 10=>u = .agg (pc (fb ((X) * (fiv (Z)))) (fb ((Y) * (fiv (Z))))) | _=>True) (fun j=>match j with | 1=>some (X) | 2=>some (fiv (Z)) | 3=>some ((X) * (fiv (Z))) | 6=>some (Y) | 7=>some (fiv (Z)) | 8=>some ((Y) * (fiv (Z))) | _=>none) (fun _=>none) [(tk (none) r 49 (some 11) (fun u=>u = .agg (pc (fun _=>0) (fun _=>0))) (fun u=>u = .agg (pc (fb ((X) * (fiv (Z)))) (fb ((Y) * (fiv (Z)))))))] W1) qte [(7,0),(8,1),(9,2),(10,3),(11,4),(12,5),(13,6),(14,7),(15,8),(16,9),(17,10)] 18 (by kernel_rfl) rfl (by kernel_rfl) (InvN.of (Inv.start hok (by
   simp only [zD,zE,zF,zG,zH]
   exact fun _=>R_r))) ⟨?_,?_,?_,?_,?_,?_,?_,?_,?_,?_,?_,?_,trivial⟩ ?_
 ·exact qay rfl rfl rfl rfl fun L v w D N I=>qal rfl rfl fR30 ⟨rfl,Ext.refl _⟩
 ·exact qap _ rfl rfl rfl rfl (fun _=>trivial) fun L v w D N I=>qqx (R_q.keep I.inv.keep (by simp [noi_r]) (by simp [ne_q_r,Ne.symm ne_q_r])) _ rfl (I.inv.val 0 (D 0 rfl)) fun u hu=>⟨hu,Ext.refl _⟩
 ·exact qap _ rfl rfl rfl rfl (fun _=>trivial) fun L v w D N I=>⟨hn_3.keep I.inv.keep (by simp [noi_r]),Ext.refl _⟩
 ·exact qap _ rfl rfl rfl rfl (fun _=>trivial) fun L v w D N I=>qgo _ _ rfl rfl (nmul (I.num.n 1 _ (D 1 rfl) rfl) (I.num.n 2 _ (D 2 rfl) rfl))
 ·exact qay rfl rfl rfl rfl fun L v w D N I=>qd5 _ _ rfl rfl (qaf (qey (I.num.n 3 _ (D 3 rfl) rfl)))
 ·exact qay rfl rfl rfl rfl fun L v w D N I=>qal rfl rfl fR31 ⟨rfl,Ext.refl _⟩
 ·exact qap _ rfl rfl rfl rfl (fun _=>trivial) fun L v w D N I=>qqw (R_q.keep I.inv.keep (by simp [noi_r]) (by simp [ne_q_r,Ne.symm ne_q_r])) _ rfl (I.inv.val 5 (D 5 rfl)) fun u hu=>⟨hu,Ext.refl _⟩
 ·exact qap _ rfl rfl rfl rfl (fun _=>trivial) fun L v w D N I=>⟨hn_3.keep I.inv.keep (by simp [noi_r]),Ext.refl _⟩
 ·exact qap _ rfl rfl rfl rfl (fun _=>trivial) fun L v w D N I=>qgo _ _ rfl rfl (nmul (I.num.n 6 _ (D 6 rfl) rfl) (I.num.n 7 _ (D 7 rfl) rfl))
 ·exact qay rfl rfl rfl rfl fun L v w D N I=>qd5 _ _ rfl rfl (qaf (qey (I.num.n 8 _ (D 8 rfl) rfl)))
 ·exact qay rfl rfl rfl rfl fun L v w D N I=>bd_P _ _ rfl (I.inv.val 4 (D 4 rfl)) (I.inv.val 9 (D 9 rfl)) ldK
 ·exact qfq 0 rfl rfl rfl rfl rfl rfl rfl (fun _ h=>noP_ h) hok fun L v w D I cs hR ho=>st_P hR (by rw [qbz ho];exact qa1 _ _) _ _ rfl rfl (I.inv.val 10 (D 10 rfl)) fun _ c a b k=>⟨trivial,k,c,a,b⟩
 intro L v2 W2 hL hI
 replace R_q:=R_q.keep hI.inv.keep (by simp [noi_r]) (by simp [ne_q_r,Ne.symm ne_q_r])
 replace hn_3:=hn_3.keep hI.inv.keep (by simp [noi_r])
 clear noi_r
 replace R_r:=hI.inv.new 0 rfl (hL 11 (by decide))
 replace lt_q:=ltk lt_q hI.inv.keep.size
 replace lt_r:=ltk lt_r hI.inv.keep.size
 replace hx:=hx.keep1 hI.inv.keep bs_r
 clear hI hL hok L
 simp only [putP,Act.put,zA,zB,zC]
 go_wp2
 refine bodyPost_ret (qiy rfl _ R_r rfl) rfl ⟨?_,hx⟩
 rw [o1.out,o2.out]
theorem rneg (f g : Nat→UInt8) (w : World) :
  Calls Tryz.prog 37 #[.agg (pc f g)] w fun e w'=>e = .returned (.agg (pc (fb (0 - tf (V f))) (fb (tf (V g)))))∧Ext w w':=by
 go_enter Tryz.func37,Tryz.ntmps37
 go_upto_region 1 with fail
 obtain ⟨E0,hE0⟩ : ∃ W,W = w.alloc (.cells (pc f g) 49):=⟨_,rfl⟩
 obtain ⟨E1,hE1⟩ : ∃ W,W = E0.alloc (.cells (pc (fun _=>0) (fun _=>0)) 49):=⟨_,rfl⟩
 rw [← hE0,← hE1]
 have s0 : E0.heap.size = w.heap.size + 1:=by rw [hE0];exact Array.size_push _
 have x0 : Ext w E0:=by rw [hE0];exact qaa _ _
 have s1 : E1.heap.size = w.heap.size + 1 + 1:=by rw [hE1,← s0];exact Array.size_push _
 have x1 : Ext E0 E1:=by rw [hE1];exact qaa _ _
 have R_q:=RV.newP w f g 49
 rw [← hE0] at R_q
 replace R_q:=R_q.ext x1
 have R_r:=RV.newP E0 (fun _=>0) (fun _=>0) 49
 rw [← hE1] at R_r
 rw [s0] at R_r
 obtain ⟨q,hb0⟩ : ∃ b,b = w.heap.size:=⟨_,rfl⟩
 obtain ⟨r,hb1⟩ : ∃ b,b = w.heap.size + 1:=⟨_,rfl⟩
 rw [← hb1] at R_r
 rw [← hb0] at R_q
 rw [← hb1,← hb0]
 have hx : Ext w E1:=((Ext.refl w).trans x0).trans x1
 have lt_q : q < E1.heap.size:=R_q.lt
 have bs_q : w.heap.size ≤ q:=by omega
 have lt_r : r < E1.heap.size:=R_r.lt
 have bs_r : w.heap.size ≤ r:=by omega
 have ne_q_r : q ≠ r:=by omega
 clear hb0 s0 x0 hE0 hb1 s1 x1 hE1
 have hok : TrsOk [] E1.heap.size ([] : List Trk):=⟨by simp [tk],by simp [tk],by simp [tk],by simp [tk]⟩
 refine qac (InvN [] (fun j u=>match j with | 0=>u = .pointer (some ⟨q,0,none⟩) | 1=>u = .agg (qab (f)) | _=>True) (fun j=>match j with | 2=>some (tf (V (f))) | 3=>some ((0) - (tf (V (f)))) | 4=>some ((0) - (tf (V (f)))) | _=>none) (fun _=>none) [] E1) qtq [(4,0),(5,1),(6,2),(7,3),(3,4)] 15 rfl (by kernel_rfl) (InvN.of (Inv.start0 hok (by simp))) ⟨?_,?_,?_,?_,?_,trivial⟩ ?_
 ·exact qay rfl rfl rfl rfl fun L v w D N I=>qal rfl rfl fPT0 ⟨rfl,Ext.refl _⟩
 ·exact qay rfl rfl rfl rfl fun L v w D N I=>qma (R_q.keep0 I.inv.keep) _ rfl (I.inv.val 0 (D 0 rfl)) ldK
 ·exact qap _ rfl rfl rfl rfl (fun _=>trivial) fun L v w D N I=>gNIn _ _ rfl rfl (qai (nin (f) w) (ar1 (I.inv.val 1 (D 1 rfl))))
 ·exact qap _ rfl rfl rfl rfl (fun _=>trivial) fun L v w D N I=>gNSub _ _ rfl rfl (nsub (NF.nil _) (I.num.n 2 _ (D 2 rfl) rfl))
 ·exact qap _ rfl rfl rfl rfl (fun _=>trivial) fun L v w D N I=>⟨(I.num.n 3 _ (D 3 rfl) rfl),Ext.refl _⟩
 intro L v1 W1 hL hI
 replace R_q:=R_q.keep0 hI.inv.keep
 replace R_r:=R_r.keep0 hI.inv.keep
 have hn_3:=hI.num.n 4 _ (hL 4 (by decide)) rfl
 replace lt_q:=ltk lt_q hI.inv.keep.size
 replace lt_r:=ltk lt_r hI.inv.keep.size
 replace hx:=hx.trans hI.inv.keep.to_ext
 clear hI hL hok L
 simp only [putP,Act.put,zA,zB,zC]
 go_upto_region 2 with fail
 have hok : TrsOk [r] W1.heap.size ([(tk (none) r 49 (some 7) (fun u=>u = .agg (pc (fun _=>0) (fun _=>0))) (fun u=>u = .agg (pc (fb ((0) - (tf (V (f))))) (fb (tf (V (g)))))))] : List Trk):=⟨by simp [tk,R_r.lt],by simp [tk],by simp [tk],by simp [tk]⟩
 have noi_r : NoI W1 r:=R_r.noP
 refine qag (InvN [r] (fun j u=>match j with | 1=>u = .agg (qab (fb ((0) - (tf (V (f)))))) | 2=>u = .pointer (some ⟨q,32,none⟩) | 3=>u = .agg (qab (g)) | 5=>u = .agg (qab (fb (tf (V (g))))) | 6=>u = .agg (pc (fb ((0) - (tf (V (f))))) (fb (tf (V (g))))) | _=>True) (fun j=>match j with | 0=>some ((0) - (tf (V (f)))) | 4=>some (tf (V (g))) | _=>none) (fun _=>none) [(tk (none) r 49 (some 7) (fun u=>u = .agg (pc (fun _=>0) (fun _=>0))) (fun u=>u = .agg (pc (fb ((0) - (tf (V (f))))) (fb (tf (V (g)))))))] W1) qtr [(8,0),(9,1),(10,2),(11,3),(12,4),(13,5),(14,6)] 15 (by kernel_rfl) rfl (by kernel_rfl) (InvN.of (Inv.start hok (by
   simp only [zD,zE,zF,zG,zH]
   exact fun _=>R_r))) ⟨?_,?_,?_,?_,?_,?_,?_,?_,trivial⟩ ?_
 ·exact qap _ rfl rfl rfl rfl (fun _=>trivial) fun L v w D N I=>⟨hn_3.keep I.inv.keep (by simp [noi_r]),Ext.refl _⟩
 ·exact qay rfl rfl rfl rfl fun L v w D N I=>qd5 _ _ rfl rfl (qaf (qey (I.num.n 0 _ (D 0 rfl) rfl)))
 ·exact qay rfl rfl rfl rfl fun L v w D N I=>qal rfl rfl fPT1 ⟨rfl,Ext.refl _⟩
 ·exact qay rfl rfl rfl rfl fun L v w D N I=>ql9 (R_q.keep1 I.inv.keep ne_q_r) _ rfl (I.inv.val 2 (D 2 rfl)) ldK
 ·exact qap _ rfl rfl rfl rfl (fun _=>trivial) fun L v w D N I=>gNIn _ _ rfl rfl (qai (nin (g) w) (ar1 (I.inv.val 3 (D 3 rfl))))
 ·exact qay rfl rfl rfl rfl fun L v w D N I=>qd5 _ _ rfl rfl (qaf (qey (I.num.n 4 _ (D 4 rfl) rfl)))
 ·exact qay rfl rfl rfl rfl fun L v w D N I=>bd_P _ _ rfl (I.inv.val 1 (D 1 rfl)) (I.inv.val 5 (D 5 rfl)) ldK
 ·exact qfq 0 rfl rfl rfl rfl rfl rfl rfl (fun _ h=>noP_ h) hok fun L v w D I cs hR ho=>st_P hR (by rw [qbz ho];exact qa1 _ _) _ _ rfl rfl (I.inv.val 6 (D 6 rfl)) fun _ c a b k=>⟨trivial,k,c,a,b⟩
 intro L v2 W2 hL hI
 replace R_q:=R_q.keep1 hI.inv.keep ne_q_r
 replace hn_3:=hn_3.keep hI.inv.keep (by simp [noi_r])
 clear noi_r
 replace R_r:=hI.inv.new 0 rfl (hL 7 (by decide))
 replace lt_q:=ltk lt_q hI.inv.keep.size
 replace lt_r:=ltk lt_r hI.inv.keep.size
 replace hx:=hx.keep1 hI.inv.keep bs_r
 clear hI hL hok L
 simp only [putP,Act.put,zA,zB,zC]
 go_wp2
 refine bodyPost_ret (qiy rfl _ R_r rfl) rfl ⟨rfl,hx⟩
theorem renc (f g : Nat→UInt8) (w : World) :
  Calls Tryz.prog 38 #[.agg (pc f g)] w fun e w'=>e = .returned (.agg (qab (encF (tf (V f)) (tf (V g)))))∧Ext w w':=by
 go_enter Tryz.func38,Tryz.ntmps38
 go_upto_region 1 with fail
 obtain ⟨E0,hE0⟩ : ∃ W,W = w.alloc (.cells (pc f g) 49):=⟨_,rfl⟩
 obtain ⟨E1,hE1⟩ : ∃ W,W = E0.alloc (.cells (qab fun _=>0) 22):=⟨_,rfl⟩
 rw [← hE0,← hE1]
 have s0 : E0.heap.size = w.heap.size + 1:=by rw [hE0];exact Array.size_push _
 have x0 : Ext w E0:=by rw [hE0];exact qaa _ _
 have s1 : E1.heap.size = w.heap.size + 1 + 1:=by rw [hE1,← s0];exact Array.size_push _
 have x1 : Ext E0 E1:=by rw [hE1];exact qaa _ _
 have R_q:=RV.newP w f g 49
 rw [← hE0] at R_q
 replace R_q:=R_q.ext x1
 have R_r:=RV.newB E0 (fun _=>0) 22
 rw [← hE1] at R_r
 rw [s0] at R_r
 obtain ⟨q,hb0⟩ : ∃ b,b = w.heap.size:=⟨_,rfl⟩
 obtain ⟨r,hb1⟩ : ∃ b,b = w.heap.size + 1:=⟨_,rfl⟩
 rw [← hb1] at R_r
 rw [← hb0] at R_q
 rw [← hb1,← hb0]
 have hx : Ext w E1:=((Ext.refl w).trans x0).trans x1
 have lt_q : q < E1.heap.size:=R_q.lt
 have bs_q : w.heap.size ≤ q:=by omega
 have lt_r : r < E1.heap.size:=R_r.lt
 have bs_r : w.heap.size ≤ r:=by omega
 have ne_q_r : q ≠ r:=by omega
 clear hb0 s0 x0 hE0 hb1 s1 x1 hE1
 have hok : TrsOk [] E1.heap.size ([(tk (some 4) 0 22 (some 5) (fun u=>u = .agg (qab (fun _=>0))) (fun u=>u = .agg (qab (fb (tf (V (f)))))))] : List Trk):=⟨by simp [tk],by simp [tk],by simp [tk],by simp [tk]⟩
 refine qac (InvN [] (fun j u=>match j with | 0=>u = .pointer (some ⟨q,0,none⟩) | 1=>u = .agg (qab (f)) | 3=>u = .agg (qab (fb (tf (V (f))))) | _=>True) (fun j=>match j with | 2=>some (tf (V (f))) | _=>none) (fun _=>none) [(tk (some 4) 0 22 (some 5) (fun u=>u = .agg (qab (fun _=>0))) (fun u=>u = .agg (qab (fb (tf (V (f)))))))] E1) quu [(5,0),(6,1),(7,2),(8,3),(3,4)] 22 rfl (by kernel_rfl) (InvN.of (Inv.start0 hok (by simp))) ⟨?_,?_,?_,?_,?_,?_,trivial⟩ ?_
 ·exact qay rfl rfl rfl rfl fun L v w D N I=>qal rfl rfl fPT0 ⟨rfl,Ext.refl _⟩
 ·exact qay rfl rfl rfl rfl fun L v w D N I=>qma (R_q.keep0 I.inv.keep) _ rfl (I.inv.val 0 (D 0 rfl)) ldK
 ·exact qap _ rfl rfl rfl rfl (fun _=>trivial) fun L v w D N I=>gNIn _ _ rfl rfl (qai (nin (f) w) (ar1 (I.inv.val 1 (D 1 rfl))))
 ·exact qay rfl rfl rfl rfl fun L v w D N I=>qd5 _ _ rfl rfl (qaf (qey (I.num.n 2 _ (D 2 rfl) rfl)))
 ·exact sn_new 0 rfl rfl rfl rfl rfl rfl rfl hok fun L v w D I=>al0_B rfl ⟨trivial,rfl,_,rfl,rfl⟩
 ·exact sn_lay 0 4 rfl rfl rfl rfl rfl rfl rfl rfl (fun _ h=>noB_ h) hok fun L v w D I n cs hb hR ho=>st_B hR (by rw [qgb ho];simp) _ _ rfl hb (I.inv.val 3 (D 3 rfl)) fun _ c a b k=>⟨trivial,k,c,a,b⟩
 intro L v1 W1 hL hI
 obtain ⟨n3,hb_n3,lo_n3,R_n3⟩:=hI.inv.made 0 rfl (hL 4 (by decide)) (hL 5 (by decide))
 replace R_q:=R_q.keep0 hI.inv.keep
 replace R_r:=R_r.keep0 hI.inv.keep
 replace lt_q:=ltk lt_q hI.inv.keep.size
 replace lt_r:=ltk lt_r hI.inv.keep.size
 replace hx:=hx.trans hI.inv.keep.to_ext
 clear hI hL hok L
 simp only [putP,Act.put,zA,zB,zC,hb_n3]
 go_upto_region 2 with fail
 have hok : TrsOk [] W1.heap.size ([(tk (some 4) 0 22 (some 5) (fun u=>u = .agg (qab (fun _=>0))) (fun u=>u = .agg (qab (fb (tf (V (g)))))))] : List Trk):=⟨by simp [tk],by simp [tk],by simp [tk],by simp [tk]⟩
 refine qac (InvN [] (fun j u=>match j with | 0=>u = .pointer (some ⟨q,32,none⟩) | 1=>u = .agg (qab (g)) | 3=>u = .agg (qab (fb (tf (V (g))))) | _=>True) (fun j=>match j with | 2=>some (tf (V (g))) | _=>none) (fun _=>none) [(tk (some 4) 0 22 (some 5) (fun u=>u = .agg (qab (fun _=>0))) (fun u=>u = .agg (qab (fb (tf (V (g)))))))] W1) quv [(9,0),(10,1),(11,2),(12,3),(4,4)] 22 rfl (by kernel_rfl) (InvN.of (Inv.start0 hok (by simp))) ⟨?_,?_,?_,?_,?_,?_,trivial⟩ ?_
 ·exact qay rfl rfl rfl rfl fun L v w D N I=>qal rfl rfl fPT1 ⟨rfl,Ext.refl _⟩
 ·exact qay rfl rfl rfl rfl fun L v w D N I=>ql9 (R_q.keep0 I.inv.keep) _ rfl (I.inv.val 0 (D 0 rfl)) ldK
 ·exact qap _ rfl rfl rfl rfl (fun _=>trivial) fun L v w D N I=>gNIn _ _ rfl rfl (qai (nin (g) w) (ar1 (I.inv.val 1 (D 1 rfl))))
 ·exact qay rfl rfl rfl rfl fun L v w D N I=>qd5 _ _ rfl rfl (qaf (qey (I.num.n 2 _ (D 2 rfl) rfl)))
 ·exact sn_new 0 rfl rfl rfl rfl rfl rfl rfl hok fun L v w D I=>al0_B rfl ⟨trivial,rfl,_,rfl,rfl⟩
 ·exact sn_lay 0 4 rfl rfl rfl rfl rfl rfl rfl rfl (fun _ h=>noB_ h) hok fun L v w D I n cs hb hR ho=>st_B hR (by rw [qgb ho];simp) _ _ rfl hb (I.inv.val 3 (D 3 rfl)) fun _ c a b k=>⟨trivial,k,c,a,b⟩
 intro L v2 W2 hL hI
 obtain ⟨n4,hb_n4,lo_n4,R_n4⟩:=hI.inv.made 0 rfl (hL 4 (by decide)) (hL 5 (by decide))
 have lt_q:=R_q.lt
 have lt_r:=R_r.lt
 have lt_n3:=R_n3.lt
 replace R_q:=R_q.keep0 hI.inv.keep
 replace R_r:=R_r.keep0 hI.inv.keep
 replace R_n3:=R_n3.keep0 hI.inv.keep
 have ne_q_n4:=Nat.ne_of_lt (Nat.lt_of_lt_of_le lt_q lo_n4)
 have ne_r_n4:=Nat.ne_of_lt (Nat.lt_of_lt_of_le lt_r lo_n4)
 have ne_n3_n4:=Nat.ne_of_lt (Nat.lt_of_lt_of_le lt_n3 lo_n4)
 replace lt_q:=ltk lt_q hI.inv.keep.size
 replace lt_r:=ltk lt_r hI.inv.keep.size
 have bs_n4:=Nat.le_trans hx.size lo_n4
 have lt_n4:=R_n4.lt
 replace hx:=hx.trans hI.inv.keep.to_ext
 clear hI hL hok L
 simp only [putP,Act.put,zA,zB,zC,hb_n4]
 have e1:=R_n4.byte (i:=31) (by decide)
 have e2:=R_n3.byte (i:=0) (by decide)
 have e3:=R_n4.fro 31
 have hv:=add_top (fb (tf (V (g))) 31) (fb (tf (V (f))) 0) (fb_top_ _)
 go_upto_region 4 with fail
 first | rw [hv] | skip
 obtain ⟨W4,hW4⟩ : ∃ W4,W4 = W2.setCell ⟨n4,31,none⟩ (.int .u8 (n8 (fb (tf (V (g))) 31 ||| fb (tf (V (f))) 0 <<< 7))):=⟨_,rfl⟩
 rw [← hW4]
 have hk : Keep [n4] W2 W4:=by rw [hW4];exact Keep.setCell _ ⟨n4,31,none⟩ _
 have R5:=R_n4.set 31 (fb (tf (V (g))) 31 ||| fb (tf (V (f))) 0 <<< 7)
 rw [← hW4] at R5
 clear R_n4 R_n3 e1 e2 e3 hv
 have R_n4 : RV W4 n4 22 (fun u=>u = .agg (qab (encF (tf (V f)) (tf (V g))))):=R5
 clear R5
 replace R_r:=R_r.keep hk (by simp [ne_r_n4,Ne.symm ne_r_n4])
 clear R_q
 replace hx:=Ext.keep_ hx hk (by simpa using bs_n4)
 clear hW4
 replace lt_q:=Nat.lt_of_lt_of_le lt_q hk.size
 replace lt_r:=Nat.lt_of_lt_of_le lt_r hk.size
 replace lt_n4:=Nat.lt_of_lt_of_le lt_n4 hk.size
 have hok : TrsOk [r] W4.heap.size ([(tk (none) r 22 (some 1) (fun u=>u = .agg (qab (fun _=>0))) (fun u=>u = .agg (qab (encF (tf (V f)) (tf (V g))))))] : List Trk):=⟨by simp [tk,R_r.lt],by simp [tk],by simp [tk],by simp [tk]⟩
 have noi_r : NoI W4 r:=R_r.noB
 refine qac (InvN [r] (fun j u=>match j with | 0=>u = .agg (qab (encF (tf (V f)) (tf (V g)))) | _=>True) (fun _=>none) (fun _=>none) [(tk (none) r 22 (some 1) (fun u=>u = .agg (qab (fun _=>0))) (fun u=>u = .agg (qab (encF (tf (V f)) (tf (V g))))))] W4) quw [(21,0)] 22 rfl (by kernel_rfl) (InvN.of (Inv.start0 hok (by
   simp only [zD,zE,zF,zG,zH]
   exact fun _=>R_r))) ⟨?_,?_,trivial⟩ ?_
 ·exact qay rfl rfl rfl rfl fun L v w D N I=>ld_B (R_n4.keep1 I.inv.keep (Ne.symm ne_r_n4)) _ rfl rfl ldK
 ·exact qfq 0 rfl rfl rfl rfl rfl rfl rfl (fun _ h=>noB_ h) hok fun L v w D I cs hR ho=>st_B hR (by rw [qgb ho];simp) _ _ rfl rfl (I.inv.val 0 (D 0 rfl)) fun _ c a b k=>⟨trivial,k,c,a,b⟩
 intro L v3 W3 hL hI
 replace R_n4:=R_n4.keep1 hI.inv.keep (Ne.symm ne_r_n4)
 clear noi_r
 replace R_r:=hI.inv.new 0 rfl (hL 1 (by decide))
 replace lt_q:=ltk lt_q hI.inv.keep.size
 replace lt_r:=ltk lt_r hI.inv.keep.size
 replace lt_n4:=ltk lt_n4 hI.inv.keep.size
 replace hx:=hx.keep1 hI.inv.keep bs_r
 clear hI hL hok L
 simp only [putP,Act.put,zA,zB,zC]
 go_wp2
 refine bodyPost_ret (qcs rfl _ R_r rfl) rfl ⟨rfl,hx⟩
end Go.Proofs.YtgeihelkkhjjaaaGreatDoor
end
