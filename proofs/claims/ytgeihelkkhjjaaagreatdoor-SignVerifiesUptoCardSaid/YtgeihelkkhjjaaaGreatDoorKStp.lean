/-
  Texts of the lemmas below the claim, put together: Stp SgE Stq.
-/
import Derived.Test.YtgeihelkkhjjaaaGreatDoorKGP
set_option linter.unusedSimpArgs false
set_option linter.unusedVariables false
set_option maxRecDepth 20000
section
namespace Go.Cv
open Go Go.RowKit
@[reducible] def tk (al : Option Nat) (n0 : Nat) (T : TypeId) (st : Option Nat) (φ ψ : Value→Prop) : Trk:=⟨al,n0,T,st,fun cs=>φ (.agg cs.toArray),fun cs=>ψ (.agg cs.toArray)⟩
def sz (k : Nat) (u : Value) : Prop:=∃ cs : List Value,u = .agg cs.toArray∧cs.length = k
theorem qaq {k : Nat} {cs : List Value} (h : sz k (.agg cs.toArray)) : cs.length = k:=by
 obtain ⟨c,h1,h2⟩:=h
 injection h1 with h1
 have:=congrArg Array.toList h1
 simp only at this
 rw [this];exact h2
theorem qa5 {k : Nat} (cs : List Value) (h : cs.length = k) : sz k (.agg cs.toArray):=⟨cs,rfl,h⟩
section
variable {P : Program} {ns : List Nat} {VF : Nat→Value→Prop} {trs : List Trk} {w0 : World} {pl : List Plan} {a0 : Act} {i : Nat} {o : Oper}
theorem nyet {L : Nat→Bool} (hC : ∀ j,L j = true→∀ d ∈ qaw pl j,L d = true) (hL : L i = false) : ∀ s,(qaw pl s).contains i = true→L s = false:=fun _ hd=>qia hC hL hd
theorem s_val (hg : o.guard = none) (hna : (trs.all fun t=>t.al != some i && t.st != some i) = true)
  (h : ∀ (L : Nat→Bool) v w,(∀ d,(qaw pl i).contains d = true→L d = true)→(∀ s,(qaw pl s).contains i = true→L s = false)→Inv ns VF trs w0 L v w→qak P (fun u w'=>VF i u∧Ext w w') ((execOp (putP (qaj pl i) v a0).eval o).run P w)) :
  Step P pl a0 (Inv ns VF trs w0) i o:=by
 intro L v w hL hD hC hI
 refine ⟨fun _=>hI.val_step hL ?_ (h L v w (fun d hd=>hD d (List.contains_iff_mem.1 hd)) (nyet hC hL) hI),fun hw=>?_⟩
 ·intro t ht
  have:=List.all_eq_true.1 hna t ht
  simpa using this
 ·unfold qbq at hw
  rw [hg] at hw
  cases hw
theorem sV (h : ∀ (L : Nat→Bool) v w,(∀ d,(qaw pl i).contains d = true→L d = true)→(∀ s,(qaw pl s).contains i = true→L s = false)→Inv ns VF trs w0 L v w→qak P (fun u w'=>VF i u∧Ext w w') ((execOp (putP (qaj pl i) v a0).eval o).run P w)) (hg : o.guard = none:=by rfl) (hna : (trs.all fun t=>t.al != some i && t.st != some i) = true:=by rfl) : Step P pl a0 (Inv ns VF trs w0) i o:=s_val hg hna h
theorem qa7 (k : Nat) {t : Trk} (ht : trs[k]? = some t) (hal : t.al = some i) (hg : o.guard = none) (hnst : (trs.all fun s=>s.st != some i) = true) (hst : (match t.st with | none=>true | some s=>(qaw pl s).contains i) = true) (hok : TrsOk ns w0.heap.size trs)
  (h : ∀ (L : Nat→Bool) v w,(∀ d,(qaw pl i).contains d = true→L d = true)→Inv ns VF trs w0 L v w→qak P (fun u w'=>VF i u∧u = .pointer (some ⟨w.heap.size,0,none⟩)∧∃ cs,w' = w.alloc (.cells (List.toArray cs) t.T)∧t.old cs) ((execOp (putP (qaj pl i) v a0).eval o).run P w)) :
  Step P pl a0 (Inv ns VF trs w0) i o:=by
 intro L v w hL hD hC hI
 refine ⟨fun _=>Inv.alloc_step hok hI hL t (List.mem_of_getElem? ht) hal ?_ ?_ (h L v w (fun d hd=>hD d (List.contains_iff_mem.1 hd)) hI),fun hw=>?_⟩
 ·intro s hs
  have:=List.all_eq_true.1 hnst s hs
  simpa using this
 ·intro s hs
  rw [hs] at hst
  exact qia hC hL hst
 ·unfold qbq at hw
  rw [hg] at hw
  cases hw
theorem s_put (k : Nat) {t : Trk} (ht : trs[k]? = some t) (hst : t.st = some i) (hal : t.al = none) (hg : o.guard = none) (hnal : (trs.all fun s=>s.al != some i) = true) (hok : TrsOk ns w0.heap.size trs)
  (h : ∀ (L : Nat→Bool) v w,(∀ d,(qaw pl i).contains d = true→L d = true)→Inv ns VF trs w0 L v w→∀ cs,Row w t.n0 t.T cs→t.old cs→qak P (fun u w'=>VF i u∧Keep [t.n0] w w'∧∃ cs',Row w' t.n0 t.T cs'∧t.new cs') ((execOp (putP (qaj pl i) v a0).eval o).run P w)) :
  Step P pl a0 (Inv ns VF trs w0) i o:=by
 intro L v w hL hD hC hI
 refine ⟨fun _=>Inv.store_step hok hI hL t (List.mem_of_getElem? ht) hst ?_ ?_ ?_,fun hw=>?_⟩
 ·intro s hs
  have:=List.all_eq_true.1 hnal s hs
  simpa using this
 ·intro j hj
  rw [hal] at hj;cases hj
 ·intro n cs hb hR ho
  have e : n = t.n0:=by
   unfold Trk.blk at hb
   rw [hal] at hb
   exact hb
  subst e
  exact h L v w (fun d hd=>hD d (List.contains_iff_mem.1 hd)) hI cs hR ho
 ·unfold qbq at hw
  rw [hg] at hw
  cases hw
theorem qcv (k a : Nat) {t : Trk} (ht : trs[k]? = some t) (hst : t.st = some i) (hal : t.al = some a) (hg : o.guard = none) (hnal : (trs.all fun s=>s.al != some i) = true) (hd : (qaw pl i).contains a = true) (hok : TrsOk ns w0.heap.size trs)
  (h : ∀ (L : Nat→Bool) v w,(∀ d,(qaw pl i).contains d = true→L d = true)→Inv ns VF trs w0 L v w→∀ n cs,v a = .pointer (some ⟨n,0,none⟩)→Row w n t.T cs→t.old cs→qak P (fun u w'=>VF i u∧Keep [n] w w'∧∃ cs',Row w' n t.T cs'∧t.new cs') ((execOp (putP (qaj pl i) v a0).eval o).run P w)) :
  Step P pl a0 (Inv ns VF trs w0) i o:=by
 intro L v w hL hD hC hI
 refine ⟨fun _=>Inv.store_step hok hI hL t (List.mem_of_getElem? ht) hst ?_ ?_ ?_,fun hw=>?_⟩
 ·intro s hs
  have:=List.all_eq_true.1 hnal s hs
  simpa using this
 ·intro j hj
  rw [hal] at hj;injection hj with hj
  subst hj
  exact hD _ (List.contains_iff_mem.1 hd)
 ·intro n cs hb hR ho
  refine h L v w (fun d hd=>hD d (List.contains_iff_mem.1 hd)) hI n cs ?_ hR ho
  unfold Trk.blk at hb
  rw [hal] at hb
  exact hb
 ·unfold qbq at hw
  rw [hg] at hw
  cases hw
variable {L : Nat→Bool} {v : Nat→Value} {w : World}
theorem Inv.at (hI : Inv ns VF trs w0 L v w) (j : Nat) (h : L j = true) : VF j (v j):=hI.val j h
theorem Inv.old (hI : Inv ns VF trs w0 L v w) (k : Nat) {n : Nat} {T : TypeId} {s : Nat} {φ ψ : Value→Prop} (ht : trs[k]? = some (tk none n T (some s) φ ψ)) (hs : L s = false) : RV w n T φ :=
 hI.row_old (tk none n T (some s) φ ψ) (List.mem_of_getElem? ht) rfl (fun s' h=>by injection h with h;rw [← h];exact hs)
theorem Inv.new (hI : Inv ns VF trs w0 L v w) (k : Nat) {n : Nat} {T : TypeId} {s : Nat} {φ ψ : Value→Prop} (ht : trs[k]? = some (tk none n T (some s) φ ψ)) (hs : L s = true) : RV w n T ψ :=
 hI.row_new (tk none n T (some s) φ ψ) (List.mem_of_getElem? ht) rfl s rfl hs
theorem Inv.made (hI : Inv ns VF trs w0 L v w) (k : Nat) {a : Nat} {T : TypeId} {s : Nat} {φ ψ : Value→Prop} (ht : trs[k]? = some (tk (some a) 0 T (some s) φ ψ)) (ha : L a = true) (hs : L s = true) :
  ∃ n,v a = .pointer (some ⟨n,0,none⟩)∧w0.heap.size ≤ n∧RV w n T ψ:=by
 obtain ⟨n,cs,h1,h2,h3,h4,h5⟩:=hI.row_made (tk (some a) 0 T (some s) φ ψ) (List.mem_of_getElem? ht) a rfl ha
 exact ⟨n,h1,h2,cs,h3,h4 s rfl hs⟩
theorem Inv.made0 (hI : Inv ns VF trs w0 L v w) (k : Nat) {a : Nat} {T : TypeId} {φ ψ : Value→Prop} (ht : trs[k]? = some (tk (some a) 0 T none φ ψ)) (ha : L a = true) :
  ∃ n,v a = .pointer (some ⟨n,0,none⟩)∧w0.heap.size ≤ n∧RV w n T φ:=by
 obtain ⟨n,cs,h1,h2,h3,h4,h5⟩:=hI.row_made (tk (some a) 0 T none φ ψ) (List.mem_of_getElem? ht) a rfl ha
 exact ⟨n,h1,h2,cs,h3,h5 fun s hs=>by cases hs⟩
theorem Inv.two (hI : Inv ns VF trs w0 L v w) (k l : Nat) {t u : Trk} (ht : trs[k]? = some t) (hu : trs[l]? = some u) {a b : Nat} (hal : t.al = some a) (hbl : u.al = some b) (hab : (a != b) = true) (ha : L a = true) (hb : L b = true) {n m : Nat} (hn : v a = .pointer (some ⟨n,0,none⟩)) (hm : v b = .pointer (some ⟨m,0,none⟩)) : n ≠ m:=fun e =>
 hI.apart t (List.mem_of_getElem? ht) u (List.mem_of_getElem? hu) a b hal hbl (by simpa using hab) ha hb (by rw [hn,hm,e])
end
theorem ldK {φ : Value→Prop} {w : World} : ∀ u,φ u→(φ u∧Ext w w):=fun u hu=>⟨hu,Ext.refl _⟩
theorem qaf {P : Program} {f : FuncId} {args : Array Value} {w : World} {X : Value} (h : Calls P f args w (fun e w'=>e = .returned X∧Ext w w')) : Calls P f args w (fun e w'=>∃ u,e = .returned u∧u = X∧Ext w w') :=
 h.mono fun e w' ⟨h1,h2⟩=>⟨X,h1,rfl,h2⟩
theorem qai {P : Program} {f : FuncId} {args args' : Array Value} {w : World} {Q : Ending→World→Prop} (h : Calls P f args w Q) (e : args' = args) : Calls P f args' w Q:=e ▸ h
theorem Ext.keep1 {w a b : World} {n : Nat} (h : Ext w a) (k : Keep [n] a b) (hn : w.heap.size ≤ n) : Ext w b:=h.keep_ k (by simpa using hn)
theorem RV.keep1 {w w' : World} {n m : Nat} {T : TypeId} {φ : Value→Prop} (h : RV w n T φ) (k : Keep [m] w w') (hb : n ≠ m) : RV w' n T φ:=h.keep k (by simpa using hb)
theorem RV.keep0 {w w' : World} {n : Nat} {T : TypeId} {φ : Value→Prop} (h : RV w n T φ) (k : Keep [] w w') : RV w' n T φ:=h.keep k (by simp)
end Go.Cv
end
section
namespace Go.Cv
open Go Go.RowKit
def qck (Ts : List TypeId) (E : Value→World→Prop) : Prop:=(∀ u w w',E u w→Ext w w'→E u w')∧∀ u w w' n T cs,E u w→Row w n T cs→T ∈ Ts→Keep [n] w w'→E u w'
def slE (T : TypeId) (φ : Nat→List Value→Value→Prop) (u : Value) (w : World) : Prop:=∃ g cs,Row w g T cs∧φ g cs u
theorem qds {Ts : List TypeId} {T : TypeId} {φ : Nat→List Value→Value→Prop} (h : (Ts.contains T) = false) : qck Ts (slE T φ):=by
 refine ⟨fun u w w' ⟨g,cs,h1,h2⟩ hx=>⟨g,cs,h1.ext hx,h2⟩,fun u w w' n T' cs' ⟨g,cs,h1,h2⟩ hr hT hk=>⟨g,cs,h1.keep hk ?_,h2⟩⟩
 intro hg
 rw [List.mem_singleton] at hg
 subst hg
 unfold Row at h1 hr
 rw [h1] at hr
 injection hr with hr
 injection hr with _ hr
 rw [hr] at h
 simp [hT] at h
structure InvE (Ts : List TypeId) (EL : List (Nat × (Value→World→Prop))) (ns : List Nat) (VF : Nat→Value→Prop) (trs : List Trk) (w0 : World) (L : Nat→Bool) (v : Nat→Value) (w : World) : Prop where
 inv : Inv ns VF trs w0 L v w
 sl : ∀ p ∈ EL,L p.1 = true→p.2 (v p.1) w
section
variable {P : Program} {Ts : List TypeId} {EL : List (Nat × (Value→World→Prop))} {ns : List Nat} {VF : Nat→Value→Prop} {trs : List Trk} {w0 : World} {pl : List Plan} {a0 : Act} {i : Nat} {o : Oper}
theorem InvE.start (h : Inv ns VF trs w0 (fun _=>false) (fun _=>undef) w0.drew) : InvE Ts EL ns VF trs w0 (fun _=>false) (fun _=>undef) w0.drew:=⟨h,fun p _ h=>by cases h⟩
theorem InvE.start0 (h : Inv ns VF trs w0 (fun _=>false) (fun _=>undef) w0) : InvE Ts EL ns VF trs w0 (fun _=>false) (fun _=>undef) w0:=⟨h,fun p _ h=>by cases h⟩
variable {L : Nat→Bool} {v : Nat→Value} {w : World} {r : Result Next}
theorem InvE.at (hI : InvE Ts EL ns VF trs w0 L v w) (k : Nat) {E : Value→World→Prop} {j : Nat} (hk : EL[k]? = some (j,E)) (hL : L j = true) : E (v j) w:=hI.sl (j,E) (List.mem_of_getElem? hk) hL
theorem InvE.val_step (hE : ∀ p ∈ EL,qck Ts p.2) (hI : InvE Ts EL ns VF trs w0 L v w) (hL : L i = false) (hna : ∀ t ∈ trs,t.al ≠ some i∧t.st ≠ some i) (h : qak P (fun u w'=>VF i u∧(∀ p ∈ EL,p.1 = i→p.2 u w')∧Ext w w') r) :
  qak P (fun u w'=>InvE Ts EL ns VF trs w0 (setB L i) (setV v i u) w') r:=by
 refine h.mono fun u w' hh=>⟨Inv.val_step (P:=P) (r:=.ok (.value u) w') hI.inv hL hna ⟨hh.1,hh.2.2⟩,fun p hp hl=>?_⟩
 by_cases hpi : p.1 = i
 ·rw [hpi,qcm]
  exact hh.2.1 p hp hpi
 ·rw [qbs hpi];rw [qa6 hpi] at hl
  exact (hE p hp).1 _ _ _ (hI.sl p hp hl) hh.2.2
theorem InvE.alloc_step (hE : ∀ p ∈ EL,qck Ts p.2) (hnE : ∀ p ∈ EL,p.1 ≠ i) (hok : TrsOk ns w0.heap.size trs) (hI : InvE Ts EL ns VF trs w0 L v w) (hL : L i = false) (t : Trk) (ht : t ∈ trs) (hal : t.al = some i) (hnst : ∀ s ∈ trs,s.st ≠ some i) (hst : ∀ s,t.st = some s→L s = false)
  (h : qak P (fun u w'=>VF i u∧u = .pointer (some ⟨w.heap.size,0,none⟩)∧∃ cs,w' = w.alloc (.cells (List.toArray cs) t.T)∧t.old cs) r) :
  qak P (fun u w'=>InvE Ts EL ns VF trs w0 (setB L i) (setV v i u) w') r:=by
 refine h.mono fun u w' hh=>⟨Inv.alloc_step (P:=P) (r:=.ok (.value u) w') hok hI.inv hL t ht hal hnst hst hh,fun p hp hl=>?_⟩
 have hpi:=hnE p hp
 rw [qbs hpi];rw [qa6 hpi] at hl
 obtain ⟨_,_,cs,hw,_⟩:=hh
 exact (hE p hp).1 _ _ _ (hI.sl p hp hl) (by rw [hw];exact qaa _ _)
theorem InvE.store_step (hE : ∀ p ∈ EL,qck Ts p.2) (hnE : ∀ p ∈ EL,p.1 ≠ i) (hok : TrsOk ns w0.heap.size trs) (hI : InvE Ts EL ns VF trs w0 L v w) (hL : L i = false) (t : Trk) (ht : t ∈ trs) (hst : t.st = some i) (hT : t.T ∈ Ts) (hnal : ∀ s ∈ trs,s.al ≠ some i) (hth : t.there L)
  (h : ∀ n cs,t.blk v n→Row w n t.T cs→t.old cs→qak P (fun u w'=>VF i u∧Keep [n] w w'∧∃ cs',Row w' n t.T cs'∧t.new cs') r) :
  qak P (fun u w'=>InvE Ts EL ns VF trs w0 (setB L i) (setV v i u) w') r:=by
 obtain ⟨n,cs,hb,hn,hR,_,hold⟩:=hI.inv.trk t ht hth
 have ho:=hold fun s hs=>by rw [hst] at hs;injection hs with hs;rw [← hs];exact hL
 refine (h n cs hb hR ho).mono fun u w' hh=>⟨?_,fun p hp hl=>?_⟩
 ·refine Inv.store_step (P:=P) (r:=.ok (.value u) w') hok hI.inv hL t ht hst hnal hth fun n' cs' hb' hR' ho'=>?_
  have : n' = n:=by
   unfold Trk.blk at hb hb'
   cases hal : t.al with
   | none=>rw [hal] at hb hb';exact hb'.trans hb.symm
   | some k =>
    rw [hal] at hb hb'
    have:=hb'.symm.trans hb
    injection this with this
    injection this with this
    injection this
  rw [this]
  exact hh
 ·have hpi:=hnE p hp
  rw [qbs hpi];rw [qa6 hpi] at hl
  exact (hE p hp).2 _ _ _ n _ cs (hI.sl p hp hl) hR hT hh.2.1
theorem ee_val (hE : ∀ p ∈ EL,qck Ts p.2) (hg : o.guard = none) (hna : (trs.all fun t=>t.al != some i && t.st != some i) = true) (hnE : (EL.all fun p=>p.1 != i) = true)
  (h : ∀ (L : Nat→Bool) v w,(∀ d,(qaw pl i).contains d = true→L d = true)→(∀ s,(qaw pl s).contains i = true→L s = false)→InvE Ts EL ns VF trs w0 L v w→qak P (fun u w'=>VF i u∧Ext w w') ((execOp (putP (qaj pl i) v a0).eval o).run P w)) :
  Step P pl a0 (InvE Ts EL ns VF trs w0) i o:=by
 intro L v w hL hD hC hI
 refine ⟨fun _=>InvE.val_step hE hI hL ?_ ((h L v w (fun d hd=>hD d (List.contains_iff_mem.1 hd)) (nyet hC hL) hI).mono fun u w' hh=>⟨hh.1,fun p hp e=>?_,hh.2⟩),fun hw=>?_⟩
 ·intro t ht
  have:=List.all_eq_true.1 hna t ht
  simpa using this
 ·have:=List.all_eq_true.1 hnE p hp
  simp [e] at this
 ·unfold qbq at hw
  rw [hg] at hw
  cases hw
theorem eV (hE : ∀ p ∈ EL,qck Ts p.2) (h : ∀ (L : Nat→Bool) v w,(∀ d,(qaw pl i).contains d = true→L d = true)→(∀ s,(qaw pl s).contains i = true→L s = false)→InvE Ts EL ns VF trs w0 L v w→qak P (fun u w'=>VF i u∧Ext w w') ((execOp (putP (qaj pl i) v a0).eval o).run P w)) (hg : o.guard = none:=by rfl) (hna : (trs.all fun t=>t.al != some i && t.st != some i) = true:=by rfl) (hnE : (EL.all fun p=>p.1 != i) = true:=by rfl) : Step P pl a0 (InvE Ts EL ns VF trs w0) i o:=ee_val hE hg hna hnE h
theorem hE0 (Ts : List TypeId) : ∀ p ∈ ([] : List (Nat × (Value→World→Prop))),qck Ts p.2:=fun p hp=>by cases hp
theorem qgr (k : Nat) {E : Value→World→Prop} (hE : ∀ p ∈ EL,qck Ts p.2) (hk : EL[k]? = some (i,E)) (ho : (((EL.take k) ++ EL.drop (k + 1)).all fun p=>p.1 != i) = true) (hg : o.guard = none) (hna : (trs.all fun t=>t.al != some i && t.st != some i) = true) (hV : ∀ u,VF i u)
  (h : ∀ (L : Nat→Bool) v w,(∀ d,(qaw pl i).contains d = true→L d = true)→(∀ s,(qaw pl s).contains i = true→L s = false)→InvE Ts EL ns VF trs w0 L v w→qak P (fun u w'=>E u w'∧Ext w w') ((execOp (putP (qaj pl i) v a0).eval o).run P w)) :
  Step P pl a0 (InvE Ts EL ns VF trs w0) i o:=by
 intro L v w hL hD hC hI
 refine ⟨fun _=>InvE.val_step hE hI hL ?_ ((h L v w (fun d hd=>hD d (List.contains_iff_mem.1 hd)) (nyet hC hL) hI).mono fun u w' hh=>⟨hV u,fun p hp e=>?_,hh.2⟩),fun hw=>?_⟩
 ·intro t ht
  have:=List.all_eq_true.1 hna t ht
  simpa using this
 ·have hlt : k < EL.length:=by
   rcases Nat.lt_or_ge k EL.length with h | h
   ·exact h
   ·rw [List.getElem?_eq_none h] at hk;cases hk
  have hsp : EL = EL.take k ++ (i,E) :: EL.drop (k + 1):=by
   rw [List.getElem?_eq_getElem hlt] at hk
   injection hk with hk
   rw [← hk,List.getElem_cons_drop,List.take_append_drop]
  rw [hsp] at hp
  rcases List.mem_append.1 hp with h1 | h1
  ·have:=List.all_eq_true.1 ho p (List.mem_append_left _ h1)
   simp [e] at this
  ·rcases List.mem_cons.1 h1 with h2 | h2
   ·rw [h2];exact hh.1
   ·have:=List.all_eq_true.1 ho p (List.mem_append_right _ h2)
    simp [e] at this
 ·unfold qbq at hw
  rw [hg] at hw
  cases hw
theorem qb6 (hE : ∀ p ∈ EL,qck Ts p.2) {g : Nat} {c : Bool} (hg : o.guard = some (g,c)) (hd : (qaw pl i).contains g = true) (hna : (trs.all fun t=>t.al != some i && t.st != some i) = true) (hnE : (EL.all fun p=>p.1 != i) = true) (hV : VF i undef)
  (hv : ∀ u,VF g u→u = .bool (!c)) : Step P pl a0 (InvE Ts EL ns VF trs w0) i o:=by
 intro L v w hL hD hC hI
 have hu:=hv _ (hI.inv.val g (hD g (List.contains_iff_mem.1 hd)))
 refine ⟨fun hw=>?_,fun _=>?_⟩
 ·unfold qbq at hw
  rw [hg] at hw
  simp [hu] at hw
 ·refine InvE.val_step (P:=P) (r:=.ok (.value undef) w) hE hI hL ?_ ⟨hV,fun p hp e=>?_,Ext.refl _⟩
  ·intro t ht
   have:=List.all_eq_true.1 hna t ht
   simpa using this
  ·have:=List.all_eq_true.1 hnE p hp
   simp [e] at this
theorem qan (hE : ∀ p ∈ EL,qck Ts p.2) {g : Nat} {c : Bool} (hg : o.guard = some (g,c)) (hd : (qaw pl i).contains g = true) (hna : (trs.all fun t=>t.al != some i && t.st != some i) = true) (hnE : (EL.all fun p=>p.1 != i) = true)
  (hv : ∀ u,VF g u→u = .bool c)
  (h : ∀ (L : Nat→Bool) v w,(∀ d,(qaw pl i).contains d = true→L d = true)→(∀ s,(qaw pl s).contains i = true→L s = false)→InvE Ts EL ns VF trs w0 L v w→qak P (fun u w'=>VF i u∧Ext w w') ((execOp (putP (qaj pl i) v a0).eval o).run P w)) :
  Step P pl a0 (InvE Ts EL ns VF trs w0) i o:=by
 intro L v w hL hD hC hI
 have hu:=hv _ (hI.inv.val g (hD g (List.contains_iff_mem.1 hd)))
 refine ⟨fun _=>InvE.val_step hE hI hL ?_ ((h L v w (fun d hd=>hD d (List.contains_iff_mem.1 hd)) (nyet hC hL) hI).mono fun u w' hh=>⟨hh.1,fun p hp e=>?_,hh.2⟩),fun hw=>?_⟩
 ·intro t ht
  have:=List.all_eq_true.1 hna t ht
  simpa using this
 ·have:=List.all_eq_true.1 hnE p hp
  simp [e] at this
 ·unfold qbq at hw
  rw [hg] at hw
  simp [hu] at hw
theorem qb3 (k : Nat) (hE : ∀ p ∈ EL,qck Ts p.2) {t : Trk} (ht : trs[k]? = some t) (hal : t.al = some i) (hg : o.guard = none) (hnst : (trs.all fun s=>s.st != some i) = true) (hnE : (EL.all fun p=>p.1 != i) = true) (hst : (match t.st with | none=>true | some s=>(qaw pl s).contains i) = true) (hok : TrsOk ns w0.heap.size trs)
  (h : ∀ (L : Nat→Bool) v w,(∀ d,(qaw pl i).contains d = true→L d = true)→InvE Ts EL ns VF trs w0 L v w→qak P (fun u w'=>VF i u∧u = .pointer (some ⟨w.heap.size,0,none⟩)∧∃ cs,w' = w.alloc (.cells (List.toArray cs) t.T)∧t.old cs) ((execOp (putP (qaj pl i) v a0).eval o).run P w)) :
  Step P pl a0 (InvE Ts EL ns VF trs w0) i o:=by
 intro L v w hL hD hC hI
 refine ⟨fun _=>InvE.alloc_step hE ?_ hok hI hL t (List.mem_of_getElem? ht) hal ?_ ?_ (h L v w (fun d hd=>hD d (List.contains_iff_mem.1 hd)) hI),fun hw=>?_⟩
 ·intro p hp
  have:=List.all_eq_true.1 hnE p hp
  simpa using this
 ·intro s hs
  have:=List.all_eq_true.1 hnst s hs
  simpa using this
 ·intro s hs
  rw [hs] at hst
  exact qia hC hL hst
 ·unfold qbq at hw
  rw [hg] at hw
  cases hw
theorem qhb (k : Nat) (hE : ∀ p ∈ EL,qck Ts p.2) {t : Trk} (ht : trs[k]? = some t) (hst : t.st = some i) (hal : t.al = none) (hT : Ts.contains t.T = true) (hg : o.guard = none) (hnal : (trs.all fun s=>s.al != some i) = true) (hnE : (EL.all fun p=>p.1 != i) = true) (hok : TrsOk ns w0.heap.size trs)
  (h : ∀ (L : Nat→Bool) v w,(∀ d,(qaw pl i).contains d = true→L d = true)→InvE Ts EL ns VF trs w0 L v w→∀ cs,Row w t.n0 t.T cs→t.old cs→qak P (fun u w'=>VF i u∧Keep [t.n0] w w'∧∃ cs',Row w' t.n0 t.T cs'∧t.new cs') ((execOp (putP (qaj pl i) v a0).eval o).run P w)) :
  Step P pl a0 (InvE Ts EL ns VF trs w0) i o:=by
 intro L v w hL hD hC hI
 refine ⟨fun _=>InvE.store_step hE ?_ hok hI hL t (List.mem_of_getElem? ht) hst (List.contains_iff_mem.1 hT) ?_ ?_ ?_,fun hw=>?_⟩
 ·intro p hp
  have:=List.all_eq_true.1 hnE p hp
  simpa using this
 ·intro s hs
  have:=List.all_eq_true.1 hnal s hs
  simpa using this
 ·intro j hj
  rw [hal] at hj;cases hj
 ·intro n cs hb hR ho
  have e : n = t.n0:=by
   unfold Trk.blk at hb
   rw [hal] at hb
   exact hb
  subst e
  exact h L v w (fun d hd=>hD d (List.contains_iff_mem.1 hd)) hI cs hR ho
 ·unfold qbq at hw
  rw [hg] at hw
  cases hw
theorem qd2 (k a : Nat) (hE : ∀ p ∈ EL,qck Ts p.2) {t : Trk} (ht : trs[k]? = some t) (hst : t.st = some i) (hal : t.al = some a) (hT : Ts.contains t.T = true) (hg : o.guard = none) (hnal : (trs.all fun s=>s.al != some i) = true) (hnE : (EL.all fun p=>p.1 != i) = true) (hd : (qaw pl i).contains a = true) (hok : TrsOk ns w0.heap.size trs)
  (h : ∀ (L : Nat→Bool) v w,(∀ d,(qaw pl i).contains d = true→L d = true)→InvE Ts EL ns VF trs w0 L v w→∀ n cs,v a = .pointer (some ⟨n,0,none⟩)→Row w n t.T cs→t.old cs→qak P (fun u w'=>VF i u∧Keep [n] w w'∧∃ cs',Row w' n t.T cs'∧t.new cs') ((execOp (putP (qaj pl i) v a0).eval o).run P w)) :
  Step P pl a0 (InvE Ts EL ns VF trs w0) i o:=by
 intro L v w hL hD hC hI
 refine ⟨fun _=>InvE.store_step hE ?_ hok hI hL t (List.mem_of_getElem? ht) hst (List.contains_iff_mem.1 hT) ?_ ?_ ?_,fun hw=>?_⟩
 ·intro p hp
  have:=List.all_eq_true.1 hnE p hp
  simpa using this
 ·intro s hs
  have:=List.all_eq_true.1 hnal s hs
  simpa using this
 ·intro j hj
  rw [hal] at hj;injection hj with hj
  subst hj
  exact hD _ (List.contains_iff_mem.1 hd)
 ·intro n cs hb hR ho
  refine h L v w (fun d hd=>hD d (List.contains_iff_mem.1 hd)) hI n cs ?_ hR ho
  unfold Trk.blk at hb
  rw [hal] at hb
  exact hb
 ·unfold qbq at hw
  rw [hg] at hw
  cases hw
end
end Go.Cv
end
section
namespace Go.Cv
open Go Go.RowKit
def faOk (P : Program) (ty : TypeId) (k d : Nat) : Prop:=∃ fs f n,P.underlying ty = some (.struct fs)∧fs[k]? = some f∧f.offset = d∧(P.info? f.type).map (·.size) = some (n + 1)
theorem qal {P : Program} {w : World} {o : Oper} {ev : Operand→Value} {R : Value→World→Prop} {ty : TypeId} {x : Operand} {k n off d : Nat} (ho : o.op = .fieldAddr ty x k) (hx : ev x = .pointer (some ⟨n,off,none⟩)) (hf : faOk P ty k d) (h : R (.pointer (some ⟨n,off + d,none⟩)) w) : qak P R ((execOp ev o).run P w):=by
 obtain ⟨fs,f,m,h1,h2,h3,h4⟩:=hf
 have hadd : (⟨n,off,none⟩ : Addr).add d = ⟨n,off + d,none⟩:=by unfold Addr.add;split <;> simp_all
 unfold execOp
 cases hq : P.info? f.type with
 | none=>simp [hq] at h4
 | some i =>
  have hs : i.size = m + 1:=by simpa [hq] using h4
  simp [ho,hx,Instr.fieldAt,run_underlying h1,h2,Instr.sureAddr,fieldPlace,Go.sizeOf,typeInfo,hq,hs,h3,hadd]
  exact h
theorem ar1 {a b : Value} (h : a = b) : #[a] = #[b]:=h ▸ rfl
theorem ar2 {a b c d : Value} (h : a = b) (k : c = d) : #[a,c] = #[b,d]:=h ▸ k ▸ rfl
theorem ar3 {a b c d e f : Value} (h : a = b) (k : c = d) (l : e = f) : #[a,c,e] = #[b,d,f]:=h ▸ k ▸ l ▸ rfl
theorem qba {P : Program} {w : World} {o : Oper} {ev : Operand→Value} {R : Value→World→Prop} {T : TypeId} {x : Operand} (cs : List Value) (ho : o.op = .box T x) (hx : ev x = .agg cs.toArray) (h : R (.pointer (some ⟨w.heap.size,0,none⟩)) (w.alloc (.cells cs.toArray T))) : qak P R ((execOp ev o).run P w):=by
 unfold execOp
 simp only [ho,hx]
 exact h
end Go.Cv
namespace Go.Proofs.YtgeihelkkhjjaaaGreatDoor
open Go.RowKit Go.Cv Go.Cv.Pr Go.Cv.Grp
theorem fW0 : faOk Tryz.prog 105 0 0:=⟨_,_,7,Tryz.underlying105,rfl,rfl,by kernel_rfl⟩
theorem fW1 : faOk Tryz.prog 105 1 8:=⟨_,_,3,Tryz.underlying105,rfl,rfl,by kernel_rfl⟩
theorem fW2 : faOk Tryz.prog 105 2 12:=⟨_,_,3,Tryz.underlying105,rfl,rfl,by kernel_rfl⟩
theorem fFL0 : faOk Tryz.prog 103 0 0:=⟨_,_,3,Tryz.underlying103,rfl,rfl,by kernel_rfl⟩
theorem fFL1 : faOk Tryz.prog 103 1 4:=⟨_,_,3,Tryz.underlying103,rfl,rfl,by kernel_rfl⟩
theorem fPT0 : faOk Tryz.prog 49 0 0:=⟨_,_,31,Tryz.underlying49,rfl,rfl,by kernel_rfl⟩
theorem fPT1 : faOk Tryz.prog 49 1 32:=⟨_,_,31,Tryz.underlying49,rfl,rfl,by kernel_rfl⟩
section
variable {w : World} {o : Oper} {ev : Operand→Value} {R : Value→World→Prop}
theorem al_E (ho : o.op = .alloc 101) (h : ∀ cs : List Value,cs.length = 4→R (.pointer (some ⟨w.heap.size,0,none⟩)) (w.alloc (.cells cs.toArray 101))) : qak Tryz.prog R ((execOp ev o).run Tryz.prog w):=by
 unfold execOp
 simp only [ho]
 go_simp
 exact h [_,_,_,_] rfl
theorem al_W (ho : o.op = .alloc 105) (h : ∀ cs : List Value,cs.length = 16→R (.pointer (some ⟨w.heap.size,0,none⟩)) (w.alloc (.cells cs.toArray 105))) : qak Tryz.prog R ((execOp ev o).run Tryz.prog w):=by
 unfold execOp
 simp only [ho]
 go_simp
 exact h [_,_,_,_,_,_,_,_,_,_,_,_,_,_,_,_] rfl
theorem qj3 (ho : o.op = .alloc 49) (h : ∀ cs : List Value,cs.length = 64→R (.pointer (some ⟨w.heap.size,0,none⟩)) (w.alloc (.cells cs.toArray 49))) : qak Tryz.prog R ((execOp ev o).run Tryz.prog w):=by
 unfold execOp
 simp only [ho]
 go_simp
 exact h (List.replicate 64 (.int .u8 0)) rfl
theorem al_B (ho : o.op = .alloc 22) (h : ∀ cs : List Value,cs.length = 32→R (.pointer (some ⟨w.heap.size,0,none⟩)) (w.alloc (.cells cs.toArray 22))) : qak Tryz.prog R ((execOp ev o).run Tryz.prog w):=by
 unfold execOp
 simp only [ho]
 go_simp
 have:=h (qab fun _=>0).toList (by simp)
 rw [Array.toArray_toList] at this
 exact this
theorem qow (ho : o.op = .build 101 #[(0,.const (.int .u64 1))]) (hev : ev (.const (.int .u64 1)) = .int .u64 1) (h : ∀ u,isE u 1→R u w) : qak Tryz.prog R ((execOp ev o).run Tryz.prog w):=by
 unfold execOp
 simp only [ho]
 go_simp
 try simp only [hev]
 try go_simp
 exact h _ ⟨1,0,0,0,rfl,qgj⟩
theorem bd_E0 (ho : o.op = .build 101 #[]) (h : ∀ u,isE u 0→R u w) : qak Tryz.prog R ((execOp ev o).run Tryz.prog w):=by
 unfold execOp
 simp only [ho]
 go_simp
 exact h _ ⟨0,0,0,0,rfl,qcw⟩
theorem bd_FL {x y : F7} (p q : Operand) (ho : o.op = .build 103 #[(0,p),(1,q)]) (hp : isE (ev p) x) (hq : isE (ev q) y) (h : ∀ u,isFl u x y→R u w) : qak Tryz.prog R ((execOp ev o).run Tryz.prog w):=by
 obtain ⟨a0,a1,a2,a3,e1,e2⟩:=hp
 obtain ⟨b0,b1,b2,b3,e3,e4⟩:=hq
 unfold execOp
 simp only [ho]
 go_simp
 try simp only [e1,e3]
 try go_simp
 exact h _ ⟨a0,a1,a2,a3,b0,b1,b2,b3,rfl,e2,e4⟩
theorem bd_FLy {y : F7} (q : Operand) (ho : o.op = .build 103 #[(1,q)]) (hq : isE (ev q) y) (h : ∀ u,isFl u 0 y→R u w) : qak Tryz.prog R ((execOp ev o).run Tryz.prog w):=by
 obtain ⟨b0,b1,b2,b3,e3,e4⟩:=hq
 unfold execOp
 simp only [ho]
 go_simp
 try simp only [e3]
 try go_simp
 exact h _ ⟨0,0,0,0,b0,b1,b2,b3,rfl,qcw,e4⟩
theorem bd_W {x y z t : F7} (p q r : Operand) (ho : o.op = .build 105 #[(0,p),(1,q),(2,r)]) (hp : isFl (ev p) x y) (hq : isE (ev q) z) (hr : isE (ev r) t) (h : ∀ u,isW u x y z t→R u w) : qak Tryz.prog R ((execOp ev o).run Tryz.prog w):=by
 obtain ⟨a0,a1,a2,a3,b0,b1,b2,b3,e1,e2,e3⟩:=hp
 obtain ⟨c0,c1,c2,c3,e4,e5⟩:=hq
 obtain ⟨d0,d1,d2,d3,e6,e7⟩:=hr
 unfold execOp
 simp only [ho]
 go_simp
 try simp only [e1,e4,e6]
 try go_simp
 exact h _ ⟨a0,a1,a2,a3,b0,b1,b2,b3,c0,c1,c2,c3,d0,d1,d2,d3,rfl,e2,e3,e5,e7⟩
theorem bd_B0 (ho : o.op = .build 22 #[]) (h : ∀ u,u = .agg (qab fun _=>0)→R u w) : qak Tryz.prog R ((execOp ev o).run Tryz.prog w):=by
 unfold execOp
 simp only [ho]
 go_simp
 exact h _ rfl
theorem g_eqB (a b : Operand) (t : TypeId) {f g : Nat→UInt8} (ho : o.op = .binOp .eql 22 a b t) (ha : ev a = .agg (qab f)) (hb : ev b = .agg (qab g)) (h : R (.bool (beqb f g)) w) : qak Tryz.prog R ((execOp ev o).run Tryz.prog w):=by
 unfold execOp
 simp only [ho,ha,hb]
 go_simp
 exact h
theorem g_neB (a b : Operand) (t : TypeId) {f g : Nat→UInt8} (ho : o.op = .binOp .neq 22 a b t) (ha : ev a = .agg (qab f)) (hb : ev b = .agg (qab g)) (h : R (.bool (!beqb f g)) w) : qak Tryz.prog R ((execOp ev o).run Tryz.prog w):=by
 unfold execOp
 simp only [ho,ha,hb]
 go_simp
 exact h
theorem gMul : GC 85 := gcOf Tryz.func85 (by kernel_rfl) (by kernel_rfl)
theorem gAdd : GC 88 := gcOf Tryz.func88 (by kernel_rfl) (by kernel_rfl)
theorem gSub : GC 86 := gcOf Tryz.func86 (by kernel_rfl) (by kernel_rfl)
theorem gInv : GC 89 := gcOf Tryz.func89 (by kernel_rfl) (by kernel_rfl)
theorem gOut : GC 91 := gcOf Tryz.func91 (by kernel_rfl) (by kernel_rfl)
theorem gEIn : GC 84 := gcOf Tryz.func84 (by kernel_rfl) (by kernel_rfl)
theorem gD : GC 87 := gcOf Tryz.func87 (by kernel_rfl) (by kernel_rfl)
theorem gTw : GC 98 := gcOf Tryz.func98 (by kernel_rfl) (by kernel_rfl)
theorem gfSub : GC 92 := gcOf Tryz.func92 (by kernel_rfl) (by kernel_rfl)
theorem gfRed : GC 76 := gcOf Tryz.func76 (by kernel_rfl) (by kernel_rfl)
theorem gcIn : GC 73 := gcOf Tryz.func73 (by kernel_rfl) (by kernel_rfl)
theorem gPlus : GC 72 := gcOf Tryz.func72 (by kernel_rfl) (by kernel_rfl)
theorem gDbl : GC 74 := gcOf Tryz.func74 (by kernel_rfl) (by kernel_rfl)
theorem gcOut : GC 75 := gcOf Tryz.func75 (by kernel_rfl) (by kernel_rfl)
end
end Go.Proofs.YtgeihelkkhjjaaaGreatDoor
end
