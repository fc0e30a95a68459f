import Derived.OrdersHeld
import Derived.Test.YtgeihelkkhjjaaaGreatDoorKKern
set_option linter.unusedSimpArgs false
set_option linter.unusedVariables false
section
namespace Go.Cv
open Go Go.RowKit
section
variable {P : Program} {ops : Array Oper} {Q : Exit→Act→World→Prop}
def qak (P : Program) (R : Value→World→Prop) : Result Next→Prop
 | .ok (.value u) w'=>R u w'
 | .ok .skip w'=>R undef w'
 | .ok (.enter f args) w'=>Calls P f args w' (fun e w''=>∃ u,e = .returned u∧R u w'')
 | _=>False
theorem qak.upon {R : Value→World→Prop} {o : Oper} {a : Act} {next : Act→World→Prop} {r : Result Next} (h : qak P R r) (hn : ∀ u w',R u w'→next (a.put o.dst u) w') : o.upon P a next Q r:=by
 unfold qak at h
 split at h
 ·exact hn _ _ h
 ·exact hn _ _ h
 ·refine Calls.mono h fun e w'' he=>?_
  obtain ⟨u,rfl,hR⟩:=he
  exact hn _ _ hR
 ·exact h.elim
theorem qak.mono {R R' : Value→World→Prop} {r : Result Next} (h : qak P R r) (hR : ∀ u w',R u w'→R' u w') : qak P R' r:=by
 unfold qak at *
 split at h
 ·exact hR _ _ h
 ·exact hR _ _ h
 ·refine Calls.mono h fun e w'' he=>?_
  obtain ⟨u,rfl,h2⟩:=he
  exact ⟨u,rfl,hR _ _ h2⟩
 ·exact h.elim
def putL : List Oper→Nat→(Nat→Bool)→(Nat→Value)→Act→Act
 | [],_,_,_,a=>a
 | o :: r,i,L,v,a=>putL r (i + 1) L v (if L i then a.put o.dst (v i) else a)
def putP : List (Nat × Nat)→(Nat→Value)→Act→Act
 | [],_,a=>a
 | (d,j) :: r,v,a=>putP r v (a.put (some d) (v j))
def qdq : List Oper→Nat→(Nat→Bool)→List (Nat × Nat)
 | [],_,_=>[]
 | o :: r,i,L=>match o.dst with
  | some d=>if L i then (d,i) :: qdq r (i + 1) L else qdq r (i + 1) L
  | none=>qdq r (i + 1) L
theorem qfe : ∀ (l : List Oper) (i : Nat) (L : Nat→Bool) (v : Nat→Value) (a : Act),putL l i L v a = putP (qdq l i L) v a
 | [],_,_,_,_=>rfl
 | o :: r,i,L,v,a=>by
  unfold putL qdq
  rw [qfe r]
  cases hd : o.dst with
  | none=>simp [Act.put]
  | some d =>
   cases hL : L i <;> simp [putP]
def setB (L : Nat→Bool) (i : Nat) : Nat→Bool:=fun j=>if j = i then true else L j
def setV (v : Nat→Value) (i : Nat) (u : Value) : Nat→Value:=fun j=>if j = i then u else v j
theorem qdb (L : Nat→Bool) (i : Nat) : setB L i i = true:=if_pos rfl
theorem qcm (v : Nat→Value) (i : Nat) (u : Value) : setV v i u i = u:=if_pos rfl
theorem qa6 {L : Nat→Bool} {i j : Nat} (h : j ≠ i) : setB L i j = L j:=if_neg h
theorem qbs {v : Nat→Value} {i j : Nat} {u : Value} (h : j ≠ i) : setV v i u j = v j:=if_neg h
def qc1 : List Oper→Bool
 | []=>true
 | o :: r=>r.all (fun o'=>o.dst.isNone || o'.dst != o.dst) && qc1 r
theorem qjo : ∀ (l : List Oper) (i : Nat) (L : Nat→Bool) (v : Nat→Value) (a : Act) (d : Option Tmp) (u : Value),(∀ o ∈ l,∀ e,d = some e→o.dst ≠ some e)→putL l i L v (a.put d u) = (putL l i L v a).put d u
 | [],_,_,_,_,_,_,_=>rfl
 | o :: r,i,L,v,a,d,u,h=>by
  unfold putL
  have ih:=fun a=>qjo r (i + 1) L v a d u fun o' ho=>h o' (List.mem_cons_of_mem _ ho)
  split
  ·rw [Act.put_comm a u (v i) fun e he=>h o (List.mem_cons_self ..) e he,ih]
  ·exact ih a
theorem qff : ∀ (l : List Oper) (i : Nat) (L L' : Nat→Bool) (v v' : Nat→Value) (a : Act),(∀ j,i ≤ j→j < i + l.length→L j = L' j∧v j = v' j)→putL l i L v a = putL l i L' v' a
 | [],_,_,_,_,_,_,_=>rfl
 | o :: r,i,L,L',v,v',a,h=>by
  unfold putL
  have h1:=h i (Nat.le_refl _) (by simp)
  rw [h1.1,h1.2]
  exact qff r (i + 1) L L' v v' _ fun j h2 h3=>h j (by omega) (by simp at h3 ⊢;omega)
theorem qjn : ∀ (l : List Oper) (i k : Nat) (L : Nat→Bool) (v : Nat→Value) (a : Act) (u : Value) (o : Oper),qc1 l = true→l[k]? = some o→L (i + k) = false →
  putL l i (setB L (i + k)) (setV v (i + k) u) a = (putL l i L v a).put o.dst u
 | [],_,_,_,_,_,_,_,_,h,_=>by simp at h
 | o :: r,i,0,L,v,a,u,o',hap,h,hL=>by
  simp only [List.getElem?_cons_zero,Option.some.injEq] at h
  subst h
  simp only [qc1,Bool.and_eq_true,List.all_eq_true,Bool.or_eq_true] at hap
  unfold putL
  simp only [Nat.add_zero] at hL ⊢
  rw [qdb,qcm,hL]
  simp only [if_true,Bool.false_eq_true,if_false]
  rw [qjo r (i + 1) _ _ a o.dst u fun o' ho e he hc=>by
   rcases hap.1 o' ho with h1 | h1
   ·rw [he] at h1;simp at h1
   ·rw [he,hc] at h1;simp at h1]
  rw [qff r (i + 1) (setB L i) L (setV v i u) v a fun j h1 h2=>⟨qa6 (by omega),qbs (by omega)⟩]
 | o :: r,i,k + 1,L,v,a,u,o',hap,h,hL=>by
  simp only [qc1,Bool.and_eq_true] at hap
  unfold putL
  rw [qa6 (by omega),qbs (by omega)]
  have e : i + (k + 1) = i + 1 + k:=by omega
  rw [e] at hL ⊢
  exact qjn r (i + 1) k L v _ u o' hap.2 (by simpa using h) hL
theorem qi2 (o : Oper) (hs : ∀ cs b,o.op ≠ .select cs b) : ∀ (l : List Oper) (i : Nat) (L rd : Nat→Bool) (v : Nat→Value) (a : Act),qc1 l = true →
  (∀ k o',l[k]? = some o'→rd (i + k) = false→∀ d,o'.dst = some d→d ∉ o.looksAt ops)→(∀ k,k < l.length→rd (i + k) = true→L (i + k) = true) →
  execOp (putL l i L v a).eval o = execOp (putL l i rd v a).eval o
 | [],_,_,_,_,_,_,_,_=>rfl
 | o1 :: r,i,L,rd,v,a,hap,h1,h2=>by
  simp only [qc1,Bool.and_eq_true,List.all_eq_true,Bool.or_eq_true] at hap
  have ih:=fun a=>qi2 o hs r (i + 1) L rd v a hap.2 (fun k o' hk hr d hd=>h1 (k + 1) o' (by simpa using hk) (by rw [← Nat.add_assoc,Nat.add_right_comm] ;exact hr) d hd) (fun k hk hr=>by
   have:=h2 (k + 1) (by simp;omega) (by rw [← Nat.add_assoc,Nat.add_right_comm];exact hr)
   rwa [← Nat.add_assoc,Nat.add_right_comm] at this)
  unfold putL
  cases hrd : rd i
  ·cases hL : L i
   ·simpa using ih a
   ·simp only [if_true,Bool.false_eq_true,if_false]
    rw [qjo r (i + 1) L v a o1.dst (v i) fun o' ho e he hc=>by
     rcases hap.1 o' ho with h3 | h3
     ·rw [he] at h3;simp at h3
     ·rw [he,hc] at h3;simp at h3]
    rw [execOp_put (ops:=ops) o hs _ _ _ fun d hd=>h1 0 o1 (by simp) hrd d hd]
    exact ih a
  ·have hL : L i = true:=h2 0 (by simp) hrd
   rw [hL]
   simpa using ih _
theorem qkl : ∀ {l : List Oper} {i : Nat} {L : Nat→Bool} {x : Nat × Nat},x ∈ qdq l i L→∃ o,l[x.2 - i]? = some o∧o.dst = some x.1∧i ≤ x.2
 | [],_,_,_,h=>by simp [qdq] at h
 | o :: r,i,L,x,h=>by
  unfold qdq at h
  have tl : x ∈ qdq r (i + 1) L→∃ o',(o :: r)[x.2 - i]? = some o'∧o'.dst = some x.1∧i ≤ x.2:=fun h=>by
   obtain ⟨o',h1,h2,h3⟩:=qkl h
   refine ⟨o',?_,h2,by omega⟩
   have e : x.2 - i = (x.2 - (i + 1)) + 1:=by omega
   rw [e]
   simpa using h1
  cases hd : o.dst with
  | none=>rw [hd] at h;exact tl h
  | some d =>
   rw [hd] at h
   simp only at h
   split at h
   ·rcases List.mem_cons.1 h with rfl | h
    ·exact ⟨o,by simp,hd,Nat.le_refl _⟩
    ·exact tl h
   ·exact tl h
theorem qrn (n i : Nat) (L : Nat→Bool) (hi : i < n) (hL : L i = false) : ((List.range n).countP fun j=>!L j) = ((List.range n).countP fun j=>!setB L i j) + 1:=by
 induction n with
 | zero=>omega
 | succ n ih =>
  rw [List.range_succ,List.countP_append,List.countP_append]
  by_cases h : i = n
  ·subst h
   have e : ((List.range i).countP fun j=>!L j) = ((List.range i).countP fun j=>!setB L i j):=by
    apply List.countP_congr
    intro j hj
    rw [qa6 (by have:=List.mem_range.1 hj;omega)]
   rw [e]
   simp [qdb,hL]
  ·have:=ih (by omega)
   rw [this]
   have e : (List.countP (fun j=>!L j) [n]) = (List.countP (fun j=>!setB L i j) [n]):=by
    simp only [List.countP_singleton]
    rw [qa6 (by omega)]
   rw [e]
   omega
theorem put_size (a : Act) (d : Option Tmp) (u : Value) : (a.put d u).tmps.size = a.tmps.size:=by
 cases d <;> simp [Act.put]
theorem qh6 : ∀ (l : List Oper) (i : Nat) (L : Nat→Bool) (v : Nat→Value) (a : Act) (d : Nat),(∀ o ∈ l,o.dst ≠ some d)→(putL l i L v a).tmps[d]? = a.tmps[d]?
 | [],_,_,_,_,_,_=>rfl
 | o :: r,i,L,v,a,d,h=>by
  unfold putL
  rw [qh6 r (i + 1) L v _ d fun o' ho=>h o' (List.mem_cons_of_mem _ ho)]
  split
  ·cases hd : o.dst with
   | none=>rfl
   | some e =>
    have hne : e ≠ d:=fun he=>h o (List.mem_cons_self ..) (by rw [hd,he])
    simp [Act.put,Array.getElem?_setIfInBounds_ne hne]
  ·rfl
theorem qm5 : ∀ (l : List Oper) (i g : Nat) (L : Nat→Bool) (v : Nat→Value) (a : Act) (o : Oper) (d : Nat),qc1 l = true→l[g]? = some o→o.dst = some d→d < a.tmps.size→L (i + g) = true→(putL l i L v a).tmps[d]? = some (v (i + g))
 | [],_,_,_,_,_,_,_,_,h,_,_,_=>by simp at h
 | o' :: r,i,0,L,v,a,o,d,hap,h,hd,hs,hL=>by
  simp only [List.getElem?_cons_zero,Option.some.injEq] at h
  subst h
  simp only [qc1,Bool.and_eq_true,List.all_eq_true,Bool.or_eq_true] at hap
  unfold putL
  simp only [Nat.add_zero] at hL ⊢
  rw [hL,if_pos rfl,qh6 r (i + 1) L v _ d fun o2 ho he=>by
   rcases hap.1 o2 ho with h3 | h3
   ·rw [hd] at h3;simp at h3
   ·rw [hd,he] at h3;simp at h3]
  rw [hd]
  simp only [Act.put]
  rw [Array.getElem?_setIfInBounds_self_of_lt hs]
 | o' :: r,i,g + 1,L,v,a,o,d,hap,h,hd,hs,hL=>by
  simp only [qc1,Bool.and_eq_true] at hap
  unfold putL
  have e : i + (g + 1) = i + 1 + g:=by omega
  rw [e] at hL ⊢
  refine qm5 r (i + 1) g L v _ o d hap.2 (by simpa using h) hd ?_ hL
  split
  ·rw [put_size];exact hs
  ·exact hs
def qbq (o : Oper) (v : Nat→Value) : Bool:=match o.guard with
 | none=>true
 | some (j,want)=>match v j with
  | .bool b=>b == want
  | _=>false
theorem qll {a : Act} {L : Nat→Bool} {v : Nat→Value} {o : Oper} (hap : qc1 ops.toList = true) (h : ∀ g want,o.guard = some (g,want)→∃ og d,ops[g]? = some og∧og.dst = some d∧d < a.tmps.size∧L g = true) :
  Region.wanted o (yielded ops (putL ops.toList 0 L v a).tmps) = qbq o v:=by
 unfold Region.wanted qbq
 cases hg : o.guard with
 | none=>rfl
 | some gw =>
  obtain ⟨g,want⟩:=gw
  obtain ⟨og,d,h1,h2,h3,h4⟩:=h g want hg
  have h5:=qm5 ops.toList 0 g L v a og d hap (by simpa using h1) h2 h3 (by rw [Nat.zero_add];exact h4)
  rw [Nat.zero_add] at h5
  simp only
  unfold yielded
  rw [h1]
  simp only [Option.bind_some,h2,h5]
  cases v g <;> rfl
structure Plan where
 (deps : List Nat)
 (reads : List (Nat × Nat))
def qr3 (ops : Array Oper) (pl : List Plan) (all : List (Nat × Nat)) (n : Nat) : Bool :=
 Region.noSelect ops && qc1 ops.toList && pl.length == ops.size && qdq ops.toList 0 (fun _=>true) == all &&
 (List.range ops.size).all fun i=>match ops[i]?,pl[i]? with
  | some o,some p =>
   (o.after.all fun e=>!Region.binds .any e || Nat.blt e.on i) &&
   (p.deps.all fun d=>d != i && o.after.any fun e=>Region.binds .any e && (e.on == d || ((pl[e.on]?).map (·.deps.contains d)).getD false)) &&
   ((List.range ops.size).all fun j=>match (ops[j]?).bind (·.dst) with
    | some d=>if (p.reads.any fun x=>x.2 == j) then p.deps.contains j else !(o.looksAt ops).contains d
    | none=>true) &&
   qdq ops.toList 0 (fun j=>p.reads.any fun x=>x.2 == j) == p.reads &&
   (match o.guard with
    | none=>true
    | some (g,_)=>p.deps.contains g && (match (ops[g]?).bind (·.dst) with | some d=>Nat.blt d n | none=>false))
  | _,_=>false
def qaw (pl : List Plan) (i : Nat) : List Nat:=((pl[i]?).map (·.deps)).getD []
def qaj (pl : List Plan) (i : Nat) : List (Nat × Nat):=((pl[i]?).map (·.reads)).getD []
def Step (P : Program) (pl : List Plan) (a0 : Act) (I : (Nat→Bool)→(Nat→Value)→World→Prop) (i : Nat) (o : Oper) : Prop :=
 ∀ L v w,L i = false→(∀ d ∈ qaw pl i,L d = true)→(∀ j,L j = true→∀ d ∈ qaw pl j,L d = true)→I L v w →
  (qbq o v = true→qak P (fun u w'=>I (setB L i) (setV v i u) w') ((execOp (putP (qaj pl i) v a0).eval o).run P w))∧(qbq o v = false→I (setB L i) (setV v i undef) w)
def Steps (P : Program) (pl : List Plan) (a0 : Act) (I : (Nat→Bool)→(Nat→Value)→World→Prop) : Nat→List Oper→Prop
 | _,[]=>True
 | i,o :: r=>Step P pl a0 I i o∧Steps P pl a0 I (i + 1) r
theorem Steps.at {pl : List Plan} {a0 : Act} {I : (Nat→Bool)→(Nat→Value)→World→Prop} : ∀ {l : List Oper} {i : Nat},Steps P pl a0 I i l→∀ k o,l[k]? = some o→Step P pl a0 I (i + k) o
 | [],_,_,k,o,h=>by simp at h
 | o' :: r,i,hs,0,o,h=>by
  simp only [List.getElem?_cons_zero,Option.some.injEq] at h
  subst h
  exact hs.1
 | o' :: r,i,hs,k + 1,o,h=>by
  have:=hs.2.at k o (by simpa using h)
  rwa [Nat.add_right_comm] at this
theorem qv1 {a0 : Act} {I : (Nat→Bool)→(Nat→Value)→World→Prop} {pl : List Plan} {all : List (Nat × Nat)} {n : Nat} (hn : a0.tmps.size = n) (hpl : qr3 ops pl all n = true) (hstep : Steps P pl a0 I 0 ops.toList) {K : Act→World→Prop}
  {i : Nat} {o : Oper} (ho : ops[i]? = some o) {L : Nat→Bool} {v : Nat→Value} {w : World} (hLi : L i = false) (hon : ∀ e ∈ o.after,Region.binds .any e = true→L e.on = true) (hcl : ∀ j,L j = true→∀ d ∈ qaw pl j,L d = true) (hI : I L v w)
  (hK : ∀ u w',(∀ j,setB L i j = true→∀ d ∈ qaw pl j,setB L i d = true)→I (setB L i) (setV v i u) w'→K (putL ops.toList 0 (setB L i) (setV v i u) a0) w') :
  if Region.wanted o (yielded ops (putL ops.toList 0 L v a0).tmps) = true then Oper.wp P o (putL ops.toList 0 L v a0) w K Q else K ((putL ops.toList 0 L v a0).put o.dst undef) w:=by
 simp only [qr3,Bool.and_eq_true,List.all_eq_true,beq_iff_eq,List.mem_range] at hpl
 obtain ⟨⟨⟨⟨hsel,hap⟩,hlen⟩,hall⟩,hpl⟩:=hpl
 have his : i < ops.size:=(Array.getElem?_eq_some_iff.1 ho).1
 obtain ⟨p,hp⟩ : ∃ p,pl[i]? = some p:=⟨pl[i]'(by omega),List.getElem?_eq_getElem (by omega)⟩
 have hpi:=hpl i his
 rw [ho,hp] at hpi
 simp only [Bool.and_eq_true,List.all_eq_true,bne_iff_ne,ne_eq,List.mem_range,beq_iff_eq] at hpi
 obtain ⟨⟨⟨⟨hd0,hd1⟩,hd2⟩,hd3⟩,hd4⟩:=hpi
 have hdeps : ∀ d ∈ qaw pl i,L d = true:=fun d hd=>by
  simp only [qaw,hp,Option.map_some,Option.getD_some] at hd
  have h3:=(hd1 d hd).2
  obtain ⟨e,he,hb⟩:=Array.any_eq_true'.1 h3
  simp only [Bool.and_eq_true,Bool.or_eq_true,beq_iff_eq] at hb
  rcases hb.2 with h4 | h4
  ·rw [← h4];exact hon e he hb.1
  ·have h5:=hcl e.on (hon e he hb.1) d
   unfold qaw at h5
   cases hq : pl[e.on]? with
   | none=>rw [hq] at h4;simp at h4
   | some q =>
    rw [hq] at h4 h5
    simp only [Option.map_some,Option.getD_some,List.contains_iff_mem] at h4 h5
    exact h5 h4
 have hst:=hstep.at i o (by simpa using ho)
 rw [Nat.zero_add] at hst
 have hgv:=hst L v w hLi hdeps hcl hI
 have hrd : execOp (putL ops.toList 0 L v a0).eval o = execOp (putP (qaj pl i) v a0).eval o:=by
  clear hgv hst hI hK
  have:=qi2 (ops:=ops) o (fun cs b=>Region.noSelect_spec hsel i o cs b ho) ops.toList 0 L (fun j=>p.reads.any fun x=>x.2 == j) v a0 hap
   (fun k o' hk hr d hd hmem=>by
    have hks : k < ops.size:=by
     have:=(List.getElem?_eq_some_iff.1 hk).1
     simpa using this
    have h3:=hd2 k hks
    have hk' : ops[k]? = some o':=by simpa using hk
    rw [hk'] at h3
    simp only [Option.bind_some,hd] at h3
    simp only [Nat.zero_add] at hr
    rw [if_neg (by rw [hr];simp)] at h3
    have h9:=List.contains_iff_mem.2 hmem
    rw [h9] at h3
    cases h3)
   (fun k hk hr=>by
    simp only [Nat.zero_add] at hr ⊢
    have hks : k < ops.size:=by simpa using hk
    have h3:=hd2 k hks
    rw [Array.getElem?_eq_getElem hks] at h3
    simp only [Option.bind_some] at h3
    have hmem : ∃ d,(ops[k]'hks).dst = some d:=by
     have h4 : (p.reads.any fun x=>x.2 == k) = true:=hr
     rw [List.any_eq_true] at h4
     obtain ⟨x,hx,hxe⟩:=h4
     rw [← hd3] at hx
     simp only [beq_iff_eq] at hxe
     have:=qkl hx
     rw [hxe] at this
     obtain ⟨o2,h5,h6,-⟩:=this
     simp only [Nat.sub_zero] at h5
     have h7 : ops[k]? = some o2:=by simpa using h5
     rw [Array.getElem?_eq_getElem hks] at h7
     injection h7 with h7
     exact ⟨x.1,by rw [h7];exact h6⟩
    obtain ⟨d,hd⟩:=hmem
    rw [hd] at h3
    simp only at h3
    rw [if_pos hr] at h3
    refine hdeps k ?_
    unfold qaw
    rw [hp]
    simpa using h3)
  rw [this,qfe,hd3]
  unfold qaj
  rw [hp]
  rfl
 have hw:=qll (ops:=ops) (a:=a0) (L:=L) (v:=v) (o:=o) hap (fun g want hg=>by
  rw [hg] at hd4
  simp only [Bool.and_eq_true,List.contains_iff_mem] at hd4
  obtain ⟨h5,h6⟩:=hd4
  have hLg : L g = true:=hdeps g (by unfold qaw;rw [hp];exact h5)
  cases hog : ops[g]? with
  | none=>rw [hog] at h6;simp at h6
  | some og =>
   rw [hog] at h6
   simp only [Option.bind_some] at h6
   cases hd : og.dst with
   | none=>rw [hd] at h6;simp at h6
   | some d =>
    rw [hd] at h6
    simp only [Nat.blt_eq] at h6
    exact ⟨og,d,rfl,hd,by rw [hn];exact h6,hLg⟩)
 have hcl' : ∀ j,setB L i j = true→∀ d ∈ qaw pl j,setB L i d = true:=fun j hj d hd=>by
  by_cases hji : j = i
  ·subst hji
   by_cases hdi : d = j
   ·subst hdi;exact qdb _ _
   ·rw [qa6 hdi];exact hdeps d hd
  ·rw [qa6 hji] at hj
   by_cases hdi : d = i
   ·subst hdi;exact qdb _ _
   ·rw [qa6 hdi];exact hcl j hj d hd
 rw [hw]
 cases hwv : qbq o v
 ·rw [if_neg (by simp)]
  have e1:=qjn ops.toList 0 i L v a0 undef o hap (by simpa using ho) (by rw [Nat.zero_add];exact hLi)
  rw [Nat.zero_add] at e1
  rw [← e1]
  exact hK undef w hcl' (hgv.2 hwv)
 ·rw [if_pos rfl]
  unfold Oper.wp
  rw [hrd]
  refine (hgv.1 hwv).upon fun u w' hI'=>?_
  have e1:=qjn ops.toList 0 i L v a0 u o hap (by simpa using ho) (by rw [Nat.zero_add];exact hLi)
  rw [Nat.zero_add] at e1
  rw [← e1]
  exact hK u w' hcl' hI'
theorem qag {id : Nat} {a0 : Act} {w0 : World} (I : (Nat→Bool)→(Nat→Value)→World→Prop) (pl : List Plan) (all : List (Nat × Nat)) (n : Nat) (hm : P.follows .mixedOrders = true) (hn : a0.tmps.size = n) (hpl : qr3 ops pl all n = true)
  (h0 : I (fun _=>false) (fun _=>undef) w0.drew) (hstep : Steps P pl a0 I 0 ops.toList)
  (hend : ∀ L v w,(∀ j,j < ops.size→L j = true)→I L v w→Q .normal (putP all v a0) w) : (Code.region id ops true).wp P Q a0 w0:=by
 have hpl0:=hpl
 simp only [qr3,Bool.and_eq_true,List.all_eq_true,beq_iff_eq,List.mem_range] at hpl
 obtain ⟨⟨⟨⟨hsel,hap⟩,hlen⟩,hall⟩,hpl⟩:=hpl
 have key : ∀ (fuel : Nat) (listed : Array Bool) (L : Nat→Bool) (v : Nat→Value) (w : World),listed.size = ops.size→(∀ j,j < ops.size→listed.getD j false = L j)→(∀ j,L j = true→∀ d ∈ qaw pl j,L d = true) →
   ((List.range ops.size).countP fun j=>!L j) = fuel→I L v w→wpAny P .any ops Q fuel listed (putL ops.toList 0 L v a0) w:=by
  intro fuel
  induction fuel with
  | zero =>
   intro listed L v w hls hlL hcl hc hI
   have hfull : ∀ j,j < ops.size→L j = true:=fun j hj=>by
    have:=List.countP_eq_zero.1 hc j (List.mem_range.2 hj)
    simpa using this
   refine ⟨?_,?_⟩
   ·rw [List.eq_nil_iff_forall_not_mem]
    intro j hj
    obtain ⟨h1,o,ho,_⟩:=mem_ready.1 hj
    have hjs : j < ops.size:=(Array.getElem?_eq_some_iff.1 ho).1
    have h2:=hlL j hjs
    rw [hfull j hjs] at h2
    have hjl : j < listed.size:=by omega
    simp only [Array.getD_eq_getD_getElem?,Array.getElem?_eq_getElem hjl,Option.getD_some] at h1 h2
    rw [h1] at h2
    cases h2
   ·have e : putL ops.toList 0 L v a0 = putP all v a0:=by
     rw [qff ops.toList 0 L (fun _=>true) v v a0 fun j h1 h2=>⟨hfull j (by simpa using h2),rfl⟩,qfe,hall]
    rw [e]
    exact hend L v w hfull hI
  | succ fuel ih =>
   intro listed L v w hls hlL hcl hc hI
   have hstepj : ∀ i ∈ Region.ready .any ops listed,wpOp P ops Q i (wpAny P .any ops Q fuel (listed.setIfInBounds i true)) (putL ops.toList 0 L v a0) w:=by
    intro i hi
    obtain ⟨h1,o,ho,haft⟩:=mem_ready.1 hi
    have his : i < ops.size:=(Array.getElem?_eq_some_iff.1 ho).1
    have hil : i < listed.size:=by omega
    have hLi : L i = false:=by
     have h2:=hlL i his
     simp only [Array.getD_eq_getD_getElem?,Array.getElem?_eq_getElem hil,Option.getD_some] at h1 h2
     rw [← h2,h1]
    have hon : ∀ e ∈ o.after,Region.binds .any e = true→L e.on = true:=fun e he hb=>by
     have h3:=haft e he hb
     have h4 : e.on < listed.size:=by
      rcases Nat.lt_or_ge e.on listed.size with h | h
      ·exact h
      ·simp [Array.getD_eq_getD_getElem?,Array.getElem?_eq_none h] at h3
     have h5:=hlL e.on (by omega)
     rw [← h5];exact h3
    unfold wpOp
    rw [ho]
    simp only
    have hps:=qv1 (Q:=Q) hn hpl0 hstep ho hLi hon hcl hI (K:=wpAny P .any ops Q fuel (listed.setIfInBounds i true)) (fun u w' hcl' hI'=>?_)
    ·split at hps
     ·rename_i hw
      rw [if_pos hw]
      exact .inl hps
     ·rename_i hw
      rw [if_neg hw]
      exact hps
    refine ih (listed.setIfInBounds i true) (setB L i) (setV v i u) w' (by simpa using hls) (fun j hj=>?_) hcl' ?_ hI'
    ·by_cases hji : j = i
     ·subst hji
      rw [qdb]
      simp [Array.getD_eq_getD_getElem?,Array.getElem?_setIfInBounds_self_of_lt hil]
     ·rw [qa6 hji,← hlL j hj]
      simp [Array.getD_eq_getD_getElem?,Array.getElem?_setIfInBounds_ne (Ne.symm hji)]
    ·have:=qrn ops.size i L his hLi
     omega
   refine ⟨fun h0=>?_,hstepj⟩
   exfalso
   have hex : ∃ j,j < ops.size∧L j = false:=by
    have hpos : 0 < (List.range ops.size).countP fun j=>!L j:=by omega
    obtain ⟨j,hj,hLj⟩:=List.countP_pos_iff.1 hpos
    exact ⟨j,List.mem_range.1 hj,by simpa using hLj⟩
   obtain ⟨j,hj,hLj⟩:=hex
   have hleast : ∃ m,(m < ops.size∧L m = false)∧∀ k,k < m→¬ (k < ops.size∧L k = false):=by
    clear hstepj hc ih
    have : ∀ n,(∀ k,k < n→¬ (k < ops.size∧L k = false)) ∨ ∃ m,(m < ops.size∧L m = false)∧∀ k,k < m→¬ (k < ops.size∧L k = false):=by
     intro n
     induction n with
     | zero=>exact .inl fun k hk=>by omega
     | succ n ih =>
      rcases ih with h | h
      ·by_cases hn : n < ops.size∧L n = false
       ·exact .inr ⟨n,hn,h⟩
       ·refine .inl fun k hk=>?_
        by_cases hkn : k = n
        ·subst hkn;exact hn
        ·exact h k (by omega)
      ·exact .inr h
    rcases this (j + 1) with h | h
    ·exact absurd ⟨hj,hLj⟩ (h j (by omega))
    ·exact h
   obtain ⟨m,⟨hm1,hm2⟩,hm3⟩:=hleast
   have hpi:=hpl m hm1
   rw [Array.getElem?_eq_getElem hm1,List.getElem?_eq_getElem (show m < pl.length by omega)] at hpi
   simp only [Bool.and_eq_true,Array.all_eq_true',Bool.or_eq_true,Bool.not_eq_true',Nat.blt_eq] at hpi
   have hd0:=hpi.1.1.1.1
   have hmem : m ∈ Region.ready .any ops listed:=by
    refine mem_ready.2 ⟨?_,ops[m],Array.getElem?_eq_getElem hm1,fun e he hb=>?_⟩
    ·have h5:=hlL m hm1
     have hml : m < listed.size:=by omega
     simp only [Array.getD_eq_getD_getElem?,Array.getElem?_eq_getElem hml,Option.getD_some] at h5 ⊢
     rw [h5,hm2]
    ·have hlt : e.on < m:=by
      rcases hd0 e he with h | h
      ·rw [hb] at h;cases h
      ·exact h
     have h6 : L e.on = true:=by
      have:=hm3 e.on hlt
      cases h : L e.on
      ·exact absurd ⟨by omega,h⟩ this
      ·rfl
     rw [hlL e.on (by omega)]
     exact h6
   rw [h0] at hmem
   cases hmem
 have h1:=key _ (Array.replicate ops.size false) (fun _=>false) (fun _=>undef) w0.drew (by simp) (fun j hj=>by simp [Array.getD_eq_getD_getElem?,hj]) (fun j hj=>by cases hj) rfl h0
 have e0 : ((List.range ops.size).countP fun j=>!(fun _=>false : Nat→Bool) j) = ops.size:=by
  simp
 rw [e0] at h1
 refine wp_region_any hm ?_
 have e1 : putL ops.toList 0 (fun _=>false) (fun _=>undef) a0 = a0:=by
  have : ∀ (l : List Oper) (i : Nat),putL l i (fun _=>false) (fun _=>undef) a0 = a0:=by
   intro l
   induction l with
   | nil=>intro i;rfl
   | cons o r ih=>intro i;unfold putL;simpa using ih (i + 1)
  exact this _ _
 rw [e1] at h1
 exact h1
theorem qac {id : Nat} {a0 : Act} {w0 : World} (I : (Nat→Bool)→(Nat→Value)→World→Prop) (pl : List Plan) (all : List (Nat × Nat)) (n : Nat) (hn : a0.tmps.size = n) (hpl : qr3 ops pl all n = true)
  (h0 : I (fun _=>false) (fun _=>undef) w0) (hstep : Steps P pl a0 I 0 ops.toList)
  (hend : ∀ L v w,(∀ j,j < ops.size→L j = true)→I L v w→Q .normal (putP all v a0) w) : (Code.region id ops false).wp P Q a0 w0:=by
 refine wp_region_list ?_
 have hpl0:=hpl
 simp only [qr3,Bool.and_eq_true,List.all_eq_true,beq_iff_eq,List.mem_range] at hpl
 obtain ⟨⟨⟨⟨hsel,hap⟩,hlen⟩,hall⟩,hpl⟩:=hpl
 have key : ∀ (l : List Oper) (k : Nat) (L : Nat→Bool) (v : Nat→Value) (w : World),ops.toList.drop k = l→(∀ j,L j = true ↔ j < k)→(∀ j,L j = true→∀ d ∈ qaw pl j,L d = true)→k + l.length = ops.size→I L v w→wpList P ops Q l (putL ops.toList 0 L v a0) w:=by
  intro l
  induction l with
  | nil =>
   intro k L v w hd hL hcl hk hI
   have hfull : ∀ j,j < ops.size→L j = true:=fun j hj=>(hL j).2 (by simp at hk;omega)
   have e : putL ops.toList 0 L v a0 = putP all v a0:=by
    rw [qff ops.toList 0 L (fun _=>true) v v a0 fun j h1 h2=>⟨hfull j (by simpa using h2),rfl⟩,qfe,hall]
   show Q .normal _ w
   rw [e]
   exact hend L v w hfull hI
  | cons o r ih =>
   intro k L v w hd hL hcl hk hI
   have hks : k < ops.size:=by simp at hk;omega
   have ho : ops[k]? = some o:=by
    have:=congrArg (fun l=>l[0]?) hd
    simpa using this
   have hLk : L k = false:=by
    cases h : L k
    ·rfl
    ·exact absurd ((hL k).1 h) (by omega)
   have hpi:=hpl k hks
   rw [ho,List.getElem?_eq_getElem (show k < pl.length by omega)] at hpi
   simp only [Bool.and_eq_true,Array.all_eq_true',Bool.or_eq_true,Bool.not_eq_true',Nat.blt_eq] at hpi
   have hd0:=hpi.1.1.1.1
   have hps:=qv1 (Q:=Q) hn hpl0 hstep ho hLk (fun e he hb=>by
    rcases hd0 e he with h | h
    ·rw [hb] at h;cases h
    ·exact (hL e.on).2 h) hcl hI (K:=wpList P ops Q r) (fun u w' hcl' hI'=>ih (k + 1) (setB L k) (setV v k u) w' (by
     rw [← List.drop_drop,hd];rfl) (fun j=>by
     by_cases hj : j = k
     ·subst hj;simp [qdb]
     ·rw [qa6 hj,hL j];omega) hcl' (by simp at hk ⊢;omega) hI')
   show (if _ then _ else _)
   split at hps
   ·rename_i hw
    rw [if_pos hw]
    exact .inl hps
   ·rename_i hw
    rw [if_neg hw]
    exact hps
 have h1:=key ops.toList 0 (fun _=>false) (fun _=>undef) w0 (by simp) (fun j=>by simp) (fun j hj=>by cases hj) (by simp) h0
 have e1 : putL ops.toList 0 (fun _=>false) (fun _=>undef) a0 = a0:=by
  have : ∀ (l : List Oper) (i : Nat),putL l i (fun _=>false) (fun _=>undef) a0 = a0:=by
   intro l
   induction l with
   | nil=>intro i;rfl
   | cons o r ih=>intro i;unfold putL;simpa using ih (i + 1)
  exact this _ _
 rw [e1] at h1
 exact h1
end
end Go.Cv
end
section
namespace Go.Cv
open Go Go.RowKit
structure Trk where
 al : Option Nat
 n0 : Nat
 T : TypeId
 st : Option Nat
 old : List Value→Prop
 new : List Value→Prop
def Trk.blk (r : Trk) (v : Nat→Value) (n : Nat) : Prop:=match r.al with
 | none=>n = r.n0
 | some k=>v k = .pointer (some ⟨n,0,none⟩)
def Trk.there (r : Trk) (L : Nat→Bool) : Prop:=∀ k,r.al = some k→L k = true
def Trk.fact (r : Trk) (B : Nat) (L : Nat→Bool) (v : Nat→Value) (w : World) : Prop :=
 r.there L→∃ n cs,r.blk v n∧(r.al = none ∨ B ≤ n)∧Row w n r.T cs∧(∀ s,r.st = some s→L s = true→r.new cs)∧((∀ s,r.st = some s→L s = false)→r.old cs)
structure TrsOk (ns : List Nat) (B : Nat) (trs : List Trk) : Prop where
 old : ∀ r ∈ trs,r.al = none→r.n0 ∈ ns∧r.n0 < B
 one : ∀ r ∈ trs,∀ s ∈ trs,r.al = none→s.al = none→r.n0 = s.n0→r = s
 al : ∀ r ∈ trs,∀ s ∈ trs,∀ k,r.al = some k→s.al = some k→r = s
 st : ∀ r ∈ trs,∀ s ∈ trs,∀ k,r.st = some k→s.st = some k→r = s
structure Inv (ns : List Nat) (VF : Nat→Value→Prop) (trs : List Trk) (w0 : World) (L : Nat→Bool) (v : Nat→Value) (w : World) : Prop where
 keep : Keep ns w0 w
 val : ∀ j,L j = true→VF j (v j)
 trk : ∀ r ∈ trs,r.fact w0.heap.size L v w
 apart : ∀ r ∈ trs,∀ s ∈ trs,∀ k l,r.al = some k→s.al = some l→k ≠ l→L k = true→L l = true→v k ≠ v l
section
variable {P : Program} {ns : List Nat} {VF : Nat→Value→Prop} {trs : List Trk} {w0 : World} {L : Nat→Bool} {v : Nat→Value} {w : World} {i : Nat} {r : Result Next}
theorem Inv.start (hok : TrsOk ns w0.heap.size trs) (h : ∀ t ∈ trs,t.al = none→∃ cs,Row w0 t.n0 t.T cs∧t.old cs) : Inv ns VF trs w0 (fun _=>false) (fun _=>undef) w0.drew :=
 ⟨⟨rfl,rfl,rfl,Nat.le_refl _,fun _ _ _=>rfl⟩,fun j hj=>(by cases hj),fun t ht hth=>by
  cases hal : t.al with
  | none =>
   obtain ⟨cs,h1,h2⟩:=h t ht hal
   exact ⟨t.n0,cs,by unfold Trk.blk;rw [hal],.inl rfl,h1,fun s _ hs=>(by cases hs),fun _=>h2⟩
  | some k=>exact absurd (hth k hal) (by simp),fun r hr s hs k l _ _ _ hk _=>by cases hk⟩
theorem Trk.blk_set {t : Trk} {u : Value} {n : Nat} (h : ∀ k,t.al = some k→k ≠ i) : t.blk (setV v i u) n ↔ t.blk v n:=by
 unfold Trk.blk
 cases hal : t.al with
 | none=>exact Iff.rfl
 | some k =>
  simp only
  rw [qbs (h k hal)]
theorem Trk.there_of {t : Trk} (h : ∀ k,t.al = some k→k ≠ i) (ht : t.there (setB L i)) : t.there L:=fun k hk=>by
 have:=ht k hk
 rwa [qa6 (h k hk)] at this
theorem Inv.val_step (hI : Inv ns VF trs w0 L v w) (hL : L i = false) (hna : ∀ t ∈ trs,t.al ≠ some i∧t.st ≠ some i) (h : qak P (fun u w'=>VF i u∧Ext w w') r) :
  qak P (fun u w'=>Inv ns VF trs w0 (setB L i) (setV v i u) w') r:=by
 refine h.mono fun u w' ⟨hu,hx⟩=>⟨hI.keep.ext hx,fun j hj=>?_,fun t ht hth=>?_,fun r hr s hs k l hk hl hkl h1 h2=>?_⟩
 ·by_cases hji : j = i
  ·subst hji;rw [qcm];exact hu
  ·rw [qbs hji];rw [qa6 hji] at hj;exact hI.val j hj
 ·have ha : ∀ k,t.al = some k→k ≠ i:=fun k hk e=>(hna t ht).1 (by rw [hk,e])
  obtain ⟨n,cs,h1,h2,h3,h4,h5⟩:=hI.trk t ht (Trk.there_of ha hth)
  refine ⟨n,cs,(Trk.blk_set ha).2 h1,h2,h3.ext hx,fun s hs hs1=>h4 s hs ?_,fun hs=>h5 fun s hs1=>?_⟩
  ·rwa [qa6 (fun e=>(hna t ht).2 (by rw [hs,e]))] at hs1
  ·have:=hs s hs1
   rwa [qa6 (fun e=>(hna t ht).2 (by rw [hs1,e]))] at this
 ·have hki : k ≠ i:=fun e=>(hna r hr).1 (by rw [hk,e])
  have hli : l ≠ i:=fun e=>(hna s hs).1 (by rw [hl,e])
  rw [qbs hki,qbs hli]
  rw [qa6 hki] at h1
  rw [qa6 hli] at h2
  exact hI.apart r hr s hs k l hk hl hkl h1 h2
theorem Inv.skip (P : Program) (hI : Inv ns VF trs w0 L v w) (hL : L i = false) (hna : ∀ t ∈ trs,t.al ≠ some i∧t.st ≠ some i) (h : VF i undef) : Inv ns VF trs w0 (setB L i) (setV v i undef) w :=
 Inv.val_step (P:=P) (r:=.ok (.value undef) w) hI hL hna ⟨h,Ext.refl _⟩
theorem Inv.alloc_step (hok : TrsOk ns w0.heap.size trs) (hI : Inv ns VF trs w0 L v w) (hL : L i = false) (t : Trk) (ht : t ∈ trs) (hal : t.al = some i) (hnst : ∀ s ∈ trs,s.st ≠ some i) (hst : ∀ s,t.st = some s→L s = false)
  (h : qak P (fun u w'=>VF i u∧u = .pointer (some ⟨w.heap.size,0,none⟩)∧∃ cs,w' = w.alloc (.cells (List.toArray cs) t.T)∧t.old cs) r) :
  qak P (fun u w'=>Inv ns VF trs w0 (setB L i) (setV v i u) w') r:=by
 refine h.mono fun u w' ⟨hu,hp,cs,hw,ho⟩=>?_
 have hx : Ext w w':=by rw [hw];exact qaa _ _
 have hRow : Row w' w.heap.size t.T cs:=by rw [hw];exact Row.alloc w cs t.T
 refine ⟨hI.keep.ext hx,fun j hj=>?_,fun s hs hth=>?_,fun r hr s hs k l hk hl hkl h1 h2=>?_⟩
 ·by_cases hji : j = i
  ·subst hji;rw [qcm];exact hu
  ·rw [qbs hji];rw [qa6 hji] at hj;exact hI.val j hj
 ·by_cases hsi : s.al = some i
  ·obtain rfl:=hok.al t ht s hs i hal hsi
   refine ⟨w.heap.size,cs,?_,.inr hI.keep.size,hRow,fun s hs1 hs2=>?_,fun _=>ho⟩
   ·unfold Trk.blk
    rw [hal]
    simp only
    rw [qcm,hp]
   ·by_cases hsi2 : s = i
    ·exact absurd (hsi2 ▸ hs1) (hnst t ht)
    ·rw [qa6 hsi2,hst s hs1] at hs2;cases hs2
  ·have ha : ∀ k,s.al = some k→k ≠ i:=fun k hk e=>hsi (by rw [hk,e])
   obtain ⟨n,cs,h1,h2,h3,h4,h5⟩:=hI.trk s hs (Trk.there_of ha hth)
   refine ⟨n,cs,(Trk.blk_set ha).2 h1,h2,h3.ext hx,fun q hq hq1=>h4 q hq ?_,fun hq=>h5 fun q hq1=>?_⟩
   ·rwa [qa6 (fun e=>hnst s hs (by rw [hq,e]))] at hq1
   ·have:=hq q hq1
    rwa [qa6 (fun e=>hnst s hs (by rw [hq1,e]))] at this
 ·have ptr : ∀ s ∈ trs,∀ l,s.al = some l→L l = true→v l ≠ .pointer (some ⟨w.heap.size,0,none⟩):=fun s hs l hl h2 he=>by
   obtain ⟨n,cs,h3,_,h4,_⟩:=hI.trk s hs (fun k hk=>by
    rw [hl] at hk;injection hk with hk;rw [← hk];exact h2)
   unfold Trk.blk at h3
   rw [hl] at h3
   simp only at h3
   rw [h3] at he
   injection he with he
   injection he with he
   injection he with he
   have:=h4.lt
   omega
  by_cases hki : k = i
  ·subst hki
   rw [qcm,qbs (Ne.symm hkl),hp]
   rw [qa6 (Ne.symm hkl)] at h2
   exact fun e=>ptr s hs l hl h2 e.symm
  ·rw [qbs hki]
   rw [qa6 hki] at h1
   by_cases hli : l = i
   ·subst hli
    rw [qcm,hp]
    exact ptr r hr k hk h1
   ·rw [qbs hli]
    rw [qa6 hli] at h2
    exact hI.apart r hr s hs k l hk hl hkl h1 h2
theorem Inv.store_step (hok : TrsOk ns w0.heap.size trs) (hI : Inv ns VF trs w0 L v w) (hL : L i = false) (t : Trk) (ht : t ∈ trs) (hst : t.st = some i) (hnal : ∀ s ∈ trs,s.al ≠ some i) (hth : t.there L)
  (h : ∀ n cs,t.blk v n→Row w n t.T cs→t.old cs→qak P (fun u w'=>VF i u∧Keep [n] w w'∧∃ cs',Row w' n t.T cs'∧t.new cs') r) :
  qak P (fun u w'=>Inv ns VF trs w0 (setB L i) (setV v i u) w') r:=by
 obtain ⟨n,cs,hb,hn,hR,_,hold⟩:=hI.trk t ht hth
 have ho:=hold fun s hs=>by rw [hst] at hs;injection hs with hs;rw [← hs];exact hL
 refine (h n cs hb hR ho).mono fun u w' ⟨hu,hk,cs',hR',hnew⟩=>?_
 have hnn : n ∈ ns ∨ w0.heap.size ≤ n:=by
  rcases hn with h1 | h1
  ·left
   have:=(hok.old t ht h1).1
   unfold Trk.blk at hb
   rw [h1] at hb
   simp only at hb
   rw [hb];exact this
  ·exact .inr h1
 refine ⟨hI.keep.trans hk fun x hx=>by rw [List.mem_singleton.1 hx];exact hnn,fun j hj=>?_,fun s hs hths=>?_,fun r hr s hs k l hk hl hkl h1 h2=>?_⟩
 ·by_cases hji : j = i
  ·subst hji;rw [qcm];exact hu
  ·rw [qbs hji];rw [qa6 hji] at hj;exact hI.val j hj
 ·have ha : ∀ k,s.al = some k→k ≠ i:=fun k hk e=>hnal s hs (by rw [hk,e])
  by_cases hsi : s.st = some i
  ·obtain rfl:=hok.st t ht s hs i hst hsi
   refine ⟨n,cs',(Trk.blk_set ha).2 hb,hn,hR',fun _ _ _=>hnew,fun hq=>?_⟩
   have:=hq i hst
   rw [qdb] at this
   cases this
  ·have hth2:=Trk.there_of ha hths
   obtain ⟨m,ds,h1,h2,h3,h4,h5⟩:=hI.trk s hs hth2
   have hmn : m ≠ n:=fun e=>by
    subst e
    cases ht1 : t.al with
    | none =>
     cases hs1 : s.al with
     | none =>
      have : t = s:=hok.one t ht s hs ht1 hs1 (by
       unfold Trk.blk at hb h1
       rw [ht1] at hb
       rw [hs1] at h1
       simp only at hb h1
       rw [← hb,← h1])
      exact hsi (this ▸ hst)
     | some l =>
      have h6:=(hok.old t ht ht1).2
      unfold Trk.blk at hb
      rw [ht1] at hb
      simp only at hb
      rcases h2 with h2 | h2
      ·rw [hs1] at h2;cases h2
      ·omega
    | some k =>
     cases hs1 : s.al with
     | none =>
      have h6:=(hok.old s hs hs1).2
      unfold Trk.blk at h1
      rw [hs1] at h1
      simp only at h1
      rcases hn with hn | hn
      ·rw [ht1] at hn;cases hn
      ·omega
     | some l =>
      have hkl : k ≠ l:=fun e=>hsi ((hok.al t ht s hs k ht1 (by rw [hs1,e])) ▸ hst)
      unfold Trk.blk at hb h1
      rw [ht1] at hb
      rw [hs1] at h1
      simp only at hb h1
      exact hI.apart t ht s hs k l ht1 hs1 hkl (hth k ht1) (hth2 l hs1) (hb.trans h1.symm)
   refine ⟨m,ds,(Trk.blk_set ha).2 h1,h2,h3.keep hk (by simpa using hmn),fun q hq hq1=>h4 q hq ?_,fun hq=>h5 fun q hq1=>?_⟩
   ·rwa [qa6 (fun e=>hsi (by rw [hq,e]))] at hq1
   ·have:=hq q hq1
    rwa [qa6 (fun e=>hsi (by rw [hq1,e]))] at this
 ·have hki : k ≠ i:=fun e=>hnal r hr (by rw [hk,e])
  have hli : l ≠ i:=fun e=>hnal s hs (by rw [hl,e])
  rw [qbs hki,qbs hli]
  rw [qa6 hki] at h1
  rw [qa6 hli] at h2
  exact hI.apart r hr s hs k l hk hl hkl h1 h2
end
end Go.Cv
end
