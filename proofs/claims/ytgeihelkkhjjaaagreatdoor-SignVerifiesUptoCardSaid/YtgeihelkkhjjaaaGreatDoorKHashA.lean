/-
  Texts of the lemmas below the claim, put together: Tail Tail2 HashA HashK.
-/
import Derived.OrdersHeld
import Derived.Test.YtgeihelkkhjjaaaGreatDoorKKern
import Derived.Test.YtgeihelkkhjjaaaGreatDoorKEC
import Derived.Test.YtgeihelkkhjjaaaGreatDoorProg
import Derived.Test.YtgeihelkkhjjaaaGreatDoorKDP
import Derived.BigRegion
import Derived.BigQuiet
import Derived.WalkSmall
import Derived.RowKitTokens
set_option linter.unusedSimpArgs false
set_option linter.unusedVariables false
set_option maxHeartbeats 2000000
section
namespace Go.Cv
open Go Go.RowKit
section
variable {P : Program} {ops : Array Oper} {Q : Exit→Act→World→Prop} {md : Region.Mode} {S : World→Prop}
def qgc (md : Region.Mode) (ops : Array Oper) (listed : Array Bool) : Prop :=
 listed.size = ops.size∧∀ k ok,ops[k]? = some ok→listed.getD k false = true→∀ e ∈ ok.after,Region.binds md e = true→listed.getD e.on false = true
def needs (md : Region.Mode) (ops : Array Oper) (l : List Nat) : List Nat :=
 l.flatMap fun k=>match ops[k]? with
  | some o=>(o.after.toList.filter fun e=>Region.binds md e).map (·.on)
  | none=>[]
def qg9 (md : Region.Mode) (ops : Array Oper) : List Nat→List Nat→List Nat
 | [],l=>l
 | k :: r,l=>qg9 md ops r (if l.contains k then l ++ needs md ops [k] else l)
theorem qel {listed : Array Bool} {j : Nat} (h : qgc md ops listed) (hj : j ∈ Region.ready md ops listed) : qgc md ops (listed.setIfInBounds j true):=by
 refine ⟨by simpa using h.1,fun k ok hk hl e he hb=>?_⟩
 obtain ⟨hjun,oj,hoj,hall⟩:=mem_ready.1 hj
 have up : ∀ m,listed.getD m false = true→(listed.setIfInBounds j true).getD m false = true:=fun m hm=>by
  simp only [Array.getD_eq_getD_getElem?,Array.getElem?_setIfInBounds] at hm ⊢
  split
  ·rename_i e
   subst e
   split
   ·simp
   ·rename_i h2
    rw [Array.getElem?_eq_none (by omega)] at hm
    exact hm
  ·exact hm
 by_cases hkj : j = k
 ·subst hkj
  obtain rfl:=Option.some.inj (hoj.symm.trans hk)
  exact up _ (hall e he hb)
 ·refine up _ (h.2 k ok hk ?_ e he hb)
  simp only [Array.getD_eq_getD_getElem?,Array.getElem?_setIfInBounds,if_neg hkj] at hl ⊢
  exact hl
theorem qkt {listed : Array Bool} (h : qgc md ops listed) {l : List Nat} (hl : ∀ k ∈ l,k < ops.size→listed.getD k false = true) : ∀ k ∈ needs md ops l,listed.getD k false = true:=by
 intro k hk
 unfold needs at hk
 obtain ⟨m,hm,hk⟩:=List.mem_flatMap.1 hk
 rcases ho : ops[m]? with _ | o
 ·rw [ho] at hk;cases hk
 ·rw [ho] at hk
  obtain ⟨e,he,rfl⟩:=List.mem_map.1 hk
  obtain ⟨he1,he2⟩:=List.mem_filter.1 he
  have hms : m < ops.size:=(Array.getElem?_eq_some_iff.1 ho).1
  exact h.2 m o ho (hl m hm hms) e (by simpa using he1) he2
theorem qet {listed : Array Bool} (h : qgc md ops listed) : ∀ (r : List Nat) {l : List Nat},(∀ k ∈ l,k < ops.size→listed.getD k false = true)→∀ k ∈ qg9 md ops r l,k < ops.size→listed.getD k false = true
 | [],_,hl=>hl
 | m :: r,l,hl=>qet h r (l:=if l.contains m then l ++ needs md ops [m] else l) fun k hk hks=>by
  split at hk
  ·rename_i hm
   rcases List.mem_append.1 hk with h1 | h1
   ·exact hl k h1 hks
   ·exact qkt h (l:=[m]) (fun x hx hxs=>by
     obtain rfl:=List.mem_singleton.1 hx
     exact hl x (by simpa using hm) hxs) k h1
  ·exact hl k hk hks
def qg8 (P : Program) (md : Region.Mode) (ops : Array Oper) (Q : Exit→Act→World→Prop) (S : World→Prop) (N : Nat) : Nat→Array Bool→Act→Prop
 | 0,listed,a=>Region.ready md ops listed = [N]∧Region.ready md ops (listed.setIfInBounds N true) = []∧∀ w,S w→wpOp P ops Q N (fun a' w'=>Q .normal a' w') a w
 | fuel + 1,listed,a=>(∃ i ∈ Region.ready md ops listed,i ≠ N) ∧
  ∀ i ∈ Region.ready md ops listed,i ≠ N→∀ w,S w→wpOp P ops Q i (fun a' w'=>S w'∧qg8 P md ops Q S N fuel (listed.setIfInBounds i true) a') a w
theorem qge {N : Nat} (n : List Nat) (hcov : ((List.range ops.size).all fun m=>m == N || (qg9 md ops n [N]).contains m) = true) :
  ∀ (fuel : Nat) (listed : Array Bool) (a : Act) (w : World),qgc md ops listed→S w→qg8 P md ops Q S N fuel listed a→wpAny P md ops Q (fuel + 1) listed a w
 | 0,listed,a,w,hc,hS,h=>by
  refine ⟨fun h0=>(by rw [h.1] at h0;cases h0),fun i hi=>?_⟩
  rw [h.1] at hi
  obtain rfl:=List.mem_singleton.1 hi
  exact wpOp_mono (fun a' w' h'=>⟨h.2.1,h'⟩) (h.2.2 w hS)
 | fuel + 1,listed,a,w,hc,hS,h=>by
  obtain ⟨⟨m,hm,hmN⟩,h2⟩:=h
  refine ⟨fun h0=>(by rw [h0] at hm;cases hm),fun i hi=>?_⟩
  by_cases hiN : i = N
  ·exfalso
   subst hiN
   obtain ⟨hmun,om,hom,-⟩:=mem_ready.1 hm
   obtain ⟨hiun,oi,hoi,hall⟩:=mem_ready.1 hi
   have hms : m < ops.size:=(Array.getElem?_eq_some_iff.1 hom).1
   have hcov2:=List.all_eq_true.1 hcov m (List.mem_range.2 hms)
   have hmem : m ∈ qg9 md ops n [i]:=by
    simp only [Bool.or_eq_true,beq_iff_eq,List.contains_iff_mem] at hcov2
    rcases hcov2 with h | h
    ·exact absurd h hmN
    ·exact h
   have hc2:=qel hc hi
   have key:=qet hc2 n (l:=[i]) (fun k hk hks=>by
    obtain rfl:=List.mem_singleton.1 hk
    have hs2:=hc.1
    simp only [Array.getD_eq_getD_getElem?]
    rw [Array.getElem?_setIfInBounds_self_of_lt (by omega)]
    rfl) m hmem hms
   have hs3:=hc.1
   have hlt : m < listed.size:=by omega
   simp only [Array.getD_eq_getD_getElem?] at key hmun
   rw [Array.getElem?_setIfInBounds_ne (Ne.symm hmN)] at key
   rw [Array.getElem?_eq_getElem hlt] at key hmun
   simp at key hmun
   rw [key] at hmun
   cases hmun
  ·exact wpOp_mono (fun a' w' h'=>qge n hcov fuel _ a' w' (qel hc hi) h'.1 h'.2) (h2 i hi hiN w hS)
theorem qj5 {N : Nat} {i : Nat} {oi : Oper} {v : Value} (hiN : i ≠ N) (hi : ops[i]? = some oi) (hsel : ∀ (j : Nat) (o : Oper) cs b,ops[j]? = some o→o.op ≠ .select cs b)
  (hQ : ∀ c a w,Q (.panic c) (a.put oi.dst v) w→Q (.panic c) a w) :
  ∀ (fuel : Nat) (listed : Array Bool) (a : Act),
   (∀ j oj,ops[j]? = some oj→j ≠ i→listed.getD j true = false→(∀ e ∈ oj.after,Region.binds md e = true→e.on ≠ i)→oi.apart ops oj = true) →
   i ∈ Region.ready md ops listed→qcb P ops S oi v a →
   qg8 P md ops Q S N fuel (listed.setIfInBounds i true) (a.put oi.dst v)→qg8 P md ops Q S N (fuel + 1) listed a:=by
 intro fuel
 induction fuel with
 | zero =>
  intro listed a _ hr hy H
  refine ⟨⟨i,hr,hiN⟩,fun j hj hjN w hS=>?_⟩
  by_cases hji : j = i
  ·subst hji;exact hy.wpOp hi hS fun w' hS'=>⟨hS',H⟩
  ·have:=ready_mono hj hji
   rw [H.1] at this
   exact absurd (List.mem_singleton.1 this) hjN
 | succ fuel ih =>
  intro listed a hfree hr hy H
  refine ⟨⟨i,hr,hiN⟩,fun j hj hjN w hS=>?_⟩
  by_cases hji : j = i
  ·subst hji;exact hy.wpOp hi hS fun w' hS'=>⟨hS',H⟩
  ·have h1:=H.2 j (ready_mono hj hji) hjN w hS
   obtain ⟨hjun,oj,hoj,hall⟩:=mem_ready.1 hj
   have hnot : ∀ e ∈ oj.after,Region.binds md e = true→e.on ≠ i:=fun e he hb heq=>by
    have h1:=hall e he hb
    have h0:=(mem_ready.1 hr).1
    rw [heq] at h1
    rcases Nat.lt_or_ge i listed.size with h' | h'
    ·simp [h'] at h0 h1;rw [h0] at h1;cases h1
    ·simp [Array.getElem?_eq_none h'] at h1
   have h2:=qhu hoj (hfree j oj hoj hji hjun hnot) (fun cs b=>hsel i oi cs b hi) (fun cs b=>hsel j oj cs b hoj) hQ hy h1
   have hfree' : ∀ k ok,ops[k]? = some ok→k ≠ i→(listed.setIfInBounds j true).getD k true = false →
     (∀ e ∈ ok.after,Region.binds md e = true→e.on ≠ i)→oi.apart ops ok = true:=fun k ok hk hki hun hno=>by
    refine hfree k ok hk hki ?_ hno
    by_cases hjk : j = k
    ·subst hjk;exact hjun
    ·rw [getD_set_ne true hjk] at hun;exact hun
   refine wpOp_mono (fun a' w' h3=>⟨h3.2.1,ih (listed.setIfInBounds j true) a' hfree' (ready_mono hr (Ne.symm hji)) h3.1 ?_⟩) h2
   rw [Array.setIfInBounds_comm _ _ hji]
   exact h3.2.2
theorem qat {N : Nat} {i : Nat} {oi : Oper} (dst : Option Tmp) {v : Value} {fuel : Nat} {listed : Array Bool} {a : Act} (hiN : (i == N) = false) (hi : ops[i]? = some oi) (hd : oi.dst = dst)
  (hs : Region.noSelect ops = true) (hf : Region.free md ops listed i = true) (hr : (Region.ready md ops listed).contains i = true)
  (hQ : ∀ c a w,Q (.panic c) (a.put dst v) w→Q (.panic c) a w) (hy : qcb P ops S oi v a)
  (h : qg8 P md ops Q S N fuel (listed.setIfInBounds i true) (a.put dst v)) : qg8 P md ops Q S N (fuel + 1) listed a:=by
 subst hd
 exact qj5 (by simpa using hiN) hi (Region.noSelect_spec hs) hQ fuel listed a (Region.free_spec hi hf) (by simpa using hr) hy h
theorem qli {N : Nat} {o : Oper} {listed : Array Bool} {a : Act} (ho : ops[N]? = some o) (hr : Region.ready md ops listed = [N]) (hr2 : Region.ready md ops (listed.setIfInBounds N true) = [])
  (hw : Region.wanted o (yielded ops a.tmps) = true) (h : ∀ w,S w→Oper.wp P o a w (fun a' w'=>Q .normal a' w') Q) : qg8 P md ops Q S N 0 listed a:=by
 refine ⟨hr,hr2,fun w hS=>?_⟩
 unfold Go.wpOp
 simp only [ho,hw,if_true]
 exact .inl (h w hS)
theorem qin {id : Nat} {a : Act} {w : World} (S : World→Prop) (N : Nat) (n : List Nat) (hm : P.follows .mixedOrders = true) (hS : S w.drew) (hn : ops.size = N + 1)
  (hcov : ((List.range ops.size).all fun m=>m == N || (qg9 .any ops n [N]).contains m) = true)
  (h : qg8 P .any ops Q S N N (Array.replicate ops.size false) a) : (Code.region id ops true).wp P Q a w:=by
 refine wp_region_any hm ?_
 rw [hn]
 refine qge n hcov N _ a w.drew ⟨by simp [hn],fun k ok hk hl=>?_⟩ hS (by rw [← hn];exact h)
 simp only [Array.getD_eq_getD_getElem?,Array.getElem?_replicate] at hl
 split at hl <;> simp at hl
end
end Go.Cv
end
section
namespace Go.Cv
open Go Go.RowKit
section
variable {P : Program} {ops : Array Oper} {Q : Exit→Act→World→Prop} {md : Region.Mode} {S : World→Prop}
def qg7 (P : Program) (md : Region.Mode) (ops : Array Oper) (Q : Exit→Act→World→Prop) (S : World→Prop) (N : Nat) : Nat→Array Bool→Act→Prop
 | 0,listed,a=>Region.ready md ops listed = [N]∧∀ w,S w→wpAny P md ops Q 3 listed a w
 | fuel + 1,listed,a=>(∃ i ∈ Region.ready md ops listed,i ≠ N) ∧
  ∀ i ∈ Region.ready md ops listed,i ≠ N→∀ w,S w→wpOp P ops Q i (fun a' w'=>S w'∧qg7 P md ops Q S N fuel (listed.setIfInBounds i true) a') a w
theorem qfo {N : Nat} {o2 o3 : Oper} (ho2 : ops[N + 1]? = some o2) (hb2 : (o2.after.any fun e=>Region.binds md e && e.on == N) = true) (ho3 : ops[N + 2]? = some o3) (hb3 : (o3.after.any fun e=>Region.binds md e && e.on == N + 1) = true) (n : List Nat) (hcov : ((List.range ops.size).all fun m=>m == 0 || m == N || m == N + 1 || m == N + 2 || (qg9 md ops n [N]).contains m) = true) :
  ∀ (fuel : Nat) (listed : Array Bool) (a : Act) (w : World),qgc md ops listed→listed.getD 0 false = true→S w→qg7 P md ops Q S N fuel listed a→wpAny P md ops Q (fuel + 3) listed a w
 | 0,listed,a,w,hc,hp,hS,h=>h.2 w hS
 | fuel + 1,listed,a,w,hc,hp,hS,h=>by
  obtain ⟨⟨m,hm,hmN⟩,h2⟩:=h
  refine ⟨fun h0=>(by rw [h0] at hm;cases hm),fun i hi=>?_⟩
  by_cases hiN : i = N
  ·exfalso
   subst hiN
   obtain ⟨hmun,om,hom,hmall⟩:=mem_ready.1 hm
   obtain ⟨hiun,oi,hoi,hall⟩:=mem_ready.1 hi
   have hms : m < ops.size:=(Array.getElem?_eq_some_iff.1 hom).1
   have hcov2:=List.all_eq_true.1 hcov m (List.mem_range.2 hms)
   have hmem : m ∈ qg9 md ops n [i]:=by
    simp only [Bool.or_eq_true,beq_iff_eq,List.contains_iff_mem] at hcov2
    rcases hcov2 with (((h | h) | h) | h) | h
    ·exfalso
     subst h
     rcases Nat.lt_or_ge 0 listed.size with h' | h'
     ·simp [h'] at hp hmun;rw [hmun] at hp;cases hp
     ·simp [Array.getElem?_eq_none h'] at hp
    ·exact absurd h hmN
    ·exfalso
     subst h
     obtain rfl:=Option.some.inj (ho2.symm.trans hom)
     obtain ⟨e,he,hb⟩:=Array.any_eq_true'.1 hb2
     simp only [Bool.and_eq_true,beq_iff_eq] at hb
     have h1:=hmall e he hb.1
     rw [hb.2] at h1
     rcases Nat.lt_or_ge i listed.size with h' | h'
     ·simp [h'] at h1 hiun;rw [hiun] at h1;cases h1
     ·simp [Array.getElem?_eq_none h'] at h1
    ·exfalso
     subst h
     obtain rfl:=Option.some.inj (ho3.symm.trans hom)
     obtain ⟨e,he,hb⟩:=Array.any_eq_true'.1 hb3
     simp only [Bool.and_eq_true,beq_iff_eq] at hb
     have h1:=hmall e he hb.1
     rw [hb.2] at h1
     obtain ⟨e2,he2,hb2'⟩:=Array.any_eq_true'.1 hb2
     simp only [Bool.and_eq_true,beq_iff_eq] at hb2'
     have h3:=hc.2 (i + 1) o2 ho2 h1 e2 he2 hb2'.1
     rw [hb2'.2] at h3
     rcases Nat.lt_or_ge i listed.size with h' | h'
     ·simp [h'] at h3 hiun;rw [hiun] at h3;cases h3
     ·simp [Array.getElem?_eq_none h'] at h3
    ·exact h
   have hc2:=qel hc hi
   have key:=qet hc2 n (l:=[i]) (fun k hk hks=>by
    obtain rfl:=List.mem_singleton.1 hk
    have hs2:=hc.1
    simp only [Array.getD_eq_getD_getElem?]
    rw [Array.getElem?_setIfInBounds_self_of_lt (by omega)]
    rfl) m hmem hms
   have hs3:=hc.1
   have hlt : m < listed.size:=by omega
   simp only [Array.getD_eq_getD_getElem?] at key hmun
   rw [Array.getElem?_setIfInBounds_ne (Ne.symm hmN)] at key
   rw [Array.getElem?_eq_getElem hlt] at key hmun
   simp at key hmun
   rw [key] at hmun
   cases hmun
  ·exact wpOp_mono (fun a' w' h'=>qfo ho2 hb2 ho3 hb3 n hcov fuel _ a' w' (qel hc hi) (getD_set_true hp) h'.1 h'.2) (h2 i hi hiN w hS)
theorem qj4 {N : Nat} {i : Nat} {oi : Oper} {v : Value} (hiN : i ≠ N) (hi : ops[i]? = some oi) (hsel : ∀ (j : Nat) (o : Oper) cs b,ops[j]? = some o→o.op ≠ .select cs b)
  (hQ : ∀ c a w,Q (.panic c) (a.put oi.dst v) w→Q (.panic c) a w) :
  ∀ (fuel : Nat) (listed : Array Bool) (a : Act),
   (∀ j oj,ops[j]? = some oj→j ≠ i→listed.getD j true = false→(∀ e ∈ oj.after,Region.binds md e = true→e.on ≠ i)→oi.apart ops oj = true) →
   i ∈ Region.ready md ops listed→qcb P ops S oi v a →
   qg7 P md ops Q S N fuel (listed.setIfInBounds i true) (a.put oi.dst v)→qg7 P md ops Q S N (fuel + 1) listed a:=by
 intro fuel
 induction fuel with
 | zero =>
  intro listed a _ hr hy H
  refine ⟨⟨i,hr,hiN⟩,fun j hj hjN w hS=>?_⟩
  by_cases hji : j = i
  ·subst hji;exact hy.wpOp hi hS fun w' hS'=>⟨hS',H⟩
  ·have:=ready_mono hj hji
   rw [H.1] at this
   exact absurd (List.mem_singleton.1 this) hjN
 | succ fuel ih =>
  intro listed a hfree hr hy H
  refine ⟨⟨i,hr,hiN⟩,fun j hj hjN w hS=>?_⟩
  by_cases hji : j = i
  ·subst hji;exact hy.wpOp hi hS fun w' hS'=>⟨hS',H⟩
  ·have h1:=H.2 j (ready_mono hj hji) hjN w hS
   obtain ⟨hjun,oj,hoj,hall⟩:=mem_ready.1 hj
   have hnot : ∀ e ∈ oj.after,Region.binds md e = true→e.on ≠ i:=fun e he hb heq=>by
    have h1:=hall e he hb
    have h0:=(mem_ready.1 hr).1
    rw [heq] at h1
    rcases Nat.lt_or_ge i listed.size with h' | h'
    ·simp [h'] at h0 h1;rw [h0] at h1;cases h1
    ·simp [Array.getElem?_eq_none h'] at h1
   have h2:=qhu hoj (hfree j oj hoj hji hjun hnot) (fun cs b=>hsel i oi cs b hi) (fun cs b=>hsel j oj cs b hoj) hQ hy h1
   have hfree' : ∀ k ok,ops[k]? = some ok→k ≠ i→(listed.setIfInBounds j true).getD k true = false →
     (∀ e ∈ ok.after,Region.binds md e = true→e.on ≠ i)→oi.apart ops ok = true:=fun k ok hk hki hun hno=>by
    refine hfree k ok hk hki ?_ hno
    by_cases hjk : j = k
    ·subst hjk;exact hjun
    ·rw [getD_set_ne true hjk] at hun;exact hun
   refine wpOp_mono (fun a' w' h3=>⟨h3.2.1,ih (listed.setIfInBounds j true) a' hfree' (ready_mono hr (Ne.symm hji)) h3.1 ?_⟩) h2
   rw [Array.setIfInBounds_comm _ _ hji]
   exact h3.2.2
theorem qas {N : Nat} {i : Nat} {oi : Oper} (dst : Option Tmp) {v : Value} {fuel : Nat} {listed : Array Bool} {a : Act} (hiN : (i == N) = false) (hi : ops[i]? = some oi) (hd : oi.dst = dst)
  (hs : Region.noSelect ops = true) (hf : Region.free md ops listed i = true) (hr : (Region.ready md ops listed).contains i = true)
  (hQ : ∀ c a w,Q (.panic c) (a.put dst v) w→Q (.panic c) a w) (hy : qcb P ops S oi v a)
  (h : qg7 P md ops Q S N fuel (listed.setIfInBounds i true) (a.put dst v)) : qg7 P md ops Q S N (fuel + 1) listed a:=by
 subst hd
 exact qj4 (by simpa using hiN) hi (Region.noSelect_spec hs) hQ fuel listed a (Region.free_spec hi hf) (by simpa using hr) hy h
theorem qo3 {i : Nat} {o : Oper} (ho : ops[i]? = some o) {rest : List Oper} {a : Act} {w : World} (h : wpList P ops Q (o :: rest) a w) : wpOp P ops Q i (fun a' w'=>wpList P ops Q rest a' w') a w:=by
 unfold Go.wpOp
 simp only [ho]
 exact h
theorem qhv {i : Nat} {o : Oper} {rest : List Oper} {fuel : Nat} {listed : Array Bool} {a : Act} {w : World} (ho : ops[i]? = some o) (hr : Region.ready md ops listed = [i]) (h : wpList P ops Q (o :: rest) a w)
  (hn : ∀ a w,wpList P ops Q rest a w→wpAny P md ops Q fuel (listed.setIfInBounds i true) a w) : wpAny P md ops Q (fuel + 1) listed a w:=by
 refine ⟨fun h0=>(by rw [hr] at h0;cases h0),fun j hj=>?_⟩
 rw [hr] at hj
 obtain rfl:=List.mem_singleton.1 hj
 exact wpOp_mono (fun a' w' h'=>hn a' w' h') (qo3 ho h)
theorem qlh {N : Nat} {o1 o2 o3 : Oper} {listed : Array Bool} {a : Act} (ho : ops[N]? = some o1) (ho2 : ops[N + 1]? = some o2) (ho3 : ops[N + 2]? = some o3) (hr : Region.ready md ops listed = [N]) (hr2 : Region.ready md ops (listed.setIfInBounds N true) = [N + 1])
  (hr3 : Region.ready md ops ((listed.setIfInBounds N true).setIfInBounds (N + 1) true) = [N + 2]) (hr4 : Region.ready md ops (((listed.setIfInBounds N true).setIfInBounds (N + 1) true).setIfInBounds (N + 2) true) = [])
  (h : ∀ w,S w→wpList P ops Q [o1,o2,o3] a w) : qg7 P md ops Q S N 0 listed a:=by
 refine ⟨hr,fun w hS=>qhv ho hr (h w hS) fun a1 w1 h1=>qhv ho2 hr2 h1 fun a2 w2 h2=>qhv ho3 hr3 h2 fun a3 w3 h3=>⟨hr4,h3⟩⟩
theorem qht {id : Nat} {a : Act} {w : World} (S : World→Prop) (N : Nat) (n : List Nat) {o0 o2 o3 : Oper} {v0 : Value} (dst0 : Option Tmp) (hm : P.follows .mixedOrders = true) (hS : S w.drew) (hn : ops.size = N + 3) (hN : 0 < N)
  (ho0 : ops[0]? = some o0) (hd0 : o0.dst = dst0) (hs : Region.noSelect ops = true) (hf : Region.free .any ops (Array.replicate ops.size false) 0 = true) (hr : (Region.ready .any ops (Array.replicate ops.size false)).contains 0 = true)
  (hQ : ∀ c a w,Q (.panic c) (a.put dst0 v0) w→Q (.panic c) a w) (hy : Yields P ops o0 v0 a)
  (ho2 : ops[N + 1]? = some o2) (hb2 : (o2.after.any fun e=>Region.binds .any e && e.on == N) = true)
  (ho3 : ops[N + 2]? = some o3) (hb3 : (o3.after.any fun e=>Region.binds .any e && e.on == N + 1) = true)
  (hcov : ((List.range ops.size).all fun m=>m == 0 || m == N || m == N + 1 || m == N + 2 || (qg9 .any ops n [N]).contains m) = true)
  (h : qg7 P .any ops Q S N (N - 1) ((Array.replicate ops.size false).setIfInBounds 0 true) (a.put dst0 v0)) : (Code.region id ops true).wp P Q a w:=by
 subst hd0
 refine wp_region_any hm ?_
 have e : ops.size = (N - 1 + 3) + 1:=by omega
 have hc0 : qgc .any ops (Array.replicate ops.size false):=⟨by simp,fun k ok hk hl=>by
  simp only [Array.getD_eq_getD_getElem?,Array.getElem?_replicate] at hl
  split at hl <;> simp at hl⟩
 have hc1:=qel hc0 (j:=0) (by simpa using hr)
 have h0 : ((Array.replicate ops.size false).setIfInBounds 0 true).getD 0 false = true:=by
  simp only [Array.getD_eq_getD_getElem?]
  rw [Array.getElem?_setIfInBounds_self_of_lt (by simp;omega)]
  rfl
 have key:=qfo ho2 hb2 ho3 hb3 n hcov (N - 1) _ _ w.drew hc1 h0 hS h
 have:=wpAny_take ho0 hs hf hr hQ hy key
 rwa [← e] at this
end
end Go.Cv
end
section
namespace Go.Cv.Hash
open Go.RowKit
def qd3 (x : UInt64) (n : Nat) : UInt64:=x <<< UInt64.ofNat (64 - n) ||| x >>> UInt64.ofNat n
def qdg (x : UInt64) (a b c : Nat) : UInt64:=qd3 x a ^^^ qd3 x b ^^^ x >>> UInt64.ofNat c
def qe9 (x : UInt64) (a b c : Nat) : UInt64:=qd3 x a ^^^ qd3 x b ^^^ qd3 x c
theorem qcx (s : Nat) (h : s < 64) : (UInt64.ofNat s).toNat = s:=by
 rw [UInt64.toNat_ofNat'];omega
theorem qpj (x : UInt64) (yk : IntKind) (s : Nat) (h : s < 64) : Op.shift .shl .u64 (n64 x) yk (s : Int) = pure (.int .u64 (n64 (x <<< UInt64.ofNat s))):=by
 unfold Op.shift
 rw [if_neg (by omega)]
 have e : min ((s : Int)).toNat (IntKind.u64).bits = s:=by show min s 64 = s;omega
 simp only [e]
 congr 2
 rw [wrap_u64_any,qe5]
 show ((x.toNat : Int) * 2 ^ s) % _ = (((x <<< UInt64.ofNat s).toNat : Nat) : Int)
 rw [UInt64.toNat_shiftLeft,qcx s h,Nat.mod_eq_of_lt h,Nat.shiftLeft_eq]
 simp
theorem qdx (x : UInt64) (s : Nat) (h : s < 64) : n64 x / 2 ^ s = n64 (x >>> UInt64.ofNat s):=by
 show (x.toNat : Int) / 2 ^ s = (((x >>> UInt64.ofNat s).toNat : Nat) : Int)
 rw [UInt64.toNat_shiftRight,qcx s h,Nat.mod_eq_of_lt h,Nat.shiftRight_eq_div_pow]
 simp
theorem qoy (n : Nat) (h0 : 0 < n) (h1 : n < 64) : n64 (-u64 (n : Int) &&& 63) = ((64 - n : Nat) : Int):=by
 show (((-u64 (n : Int) &&& 63).toNat : Nat) : Int) = _
 rw [UInt64.toNat_and]
 have h2 : ((-u64 (n : Int)).toNat : Int) = (-(n : Int)) % 18446744073709551616:=by rw [← u64_neg];exact qe5 _
 have h3 : (63 : UInt64).toNat = 2 ^ 6 - 1:=rfl
 rw [h3,Nat.and_two_pow_sub_one_eq_mod]
 omega
theorem qn0 (n : Nat) (h1 : n < 64) : n64 (64 - u64 (((64 - n : Nat)) : Int)) = (n : Int):=by
 have e : ((64 : UInt64) - u64 (((64 - n : Nat)) : Int)) = u64 (n : Int):=by
  rw [show (64 : UInt64) = u64 (64 : Int) from rfl,← u64_sub]
  congr 1
  omega
 rw [e,qe5]
 omega
end Go.Cv.Hash
namespace Go.Proofs.YtgeihelkkhjjaaaGreatDoor
open Go.RowKit Go.Cv Go.Cv.Hash Go.Cv.Dig
theorem ta64 (z : Int) (w : World) : (Instr.typeAssert (.iface 73 (.int .u64 z)) 20 133 true).run Tryz.prog w = .ok (.tuple #[.int .u32 0,.bool false]) w:=by kernel_rfl
theorem rl64 (x : UInt64) (n : Nat) (w : World) (h0 : 0 < n) (h1 : n < 64) :
  Calls Tryz.prog 112 #[.int .u64 (n64 x),.int .i64 (-(n : Int))] w fun e w'=>e = .returned (.int .u64 (n64 (qd3 x n)))∧w' = w:=by
 have hs:=qoy n h0 h1
 have hs2:=qn0 n h1
 have hl:=fun yk=>qpj x yk (64 - n) (by omega)
 have hr:=qdx x n h1
 have e : qd3 x n = x <<< UInt64.ofNat (64 - n) ||| x >>> UInt64.ofNat n:=rfl
 rw [e]
 clear e
 generalize 64 - n = s at *
 generalize x <<< UInt64.ofNat s = y at *
 generalize x >>> UInt64.ofNat n = z at *
 go_enter Tryz.func112,Tryz.ntmps112
 go_wp2
 go_ret
 exact ⟨rfl,rfl⟩
theorem qki (x : UInt64) (n : Nat) (w : World) (h0 : 0 < n) (h1 : n < 64) :
  Calls Tryz.prog 110 #[.int .u64 (n64 x),.int .i64 n] w fun e w'=>e = .returned (.int .u64 (n64 (qd3 x n)))∧w' = w:=by
 have hrl:=fun w=>rl64 x n w h0 h1
 have hta:=ta64
 generalize qd3 x n = y at *
 go_enter Tryz.func110,Tryz.ntmps110
 go_wp2_with (go_at_call 112;with_reducible refine (hrl _).mono ?_;rintro e w2 ⟨rfl,rfl⟩)
 go_ret
 exact ⟨rfl,rfl⟩
theorem qmt (x : UInt64) (a b c : Nat) (w : World) (ha : 0 < a) (ha1 : a < 64) (hb : 0 < b) (hb1 : b < 64) (hc1 : c < 64) :
  Calls Tryz.prog 107 #[.int .u64 (n64 x),.agg #[.int .i64 a,.int .i64 b,.int .i64 c]] w fun e w'=>e = .returned (.int .u64 (n64 (qdg x a b c)))∧Ext w w':=by
 have h1:=fun w=>qki x a w ha ha1
 have h2:=fun w=>qki x b w hb hb1
 have h3:=qdx x c hc1
 have hc0 : 0 ≤ (c : Int):=by omega
 have hc2 : (c : Int) ≤ 64:=by omega
 have e : qdg x a b c = qd3 x a ^^^ qd3 x b ^^^ x >>> UInt64.ofNat c:=rfl
 rw [e]
 clear e
 generalize qd3 x a = y1 at *
 generalize qd3 x b = y2 at *
 generalize x >>> UInt64.ofNat c = y3 at *
 go_enter Tryz.func107,Tryz.ntmps107
 go_wp2
 go_quiet (first
  | (go_at_call 110;with_reducible exact Calls.quiet_of_same (h1 _))
  | (go_at_call 110;with_reducible exact Calls.quiet_of_same (h2 _)))
 go_wp2
 go_ret
 exact ⟨rfl,Ext.drewN (qaa _ _) _⟩
theorem qnl (x : UInt64) (a b c : Nat) (w : World) (ha : 0 < a) (ha1 : a < 64) (hb : 0 < b) (hb1 : b < 64) (hc : 0 < c) (hc1 : c < 64) :
  Calls Tryz.prog 108 #[.int .u64 (n64 x),.agg #[.int .i64 a,.int .i64 b,.int .i64 c]] w fun e w'=>e = .returned (.int .u64 (n64 (qe9 x a b c)))∧Ext w w':=by
 have h1:=fun w=>qki x a w ha ha1
 have h2:=fun w=>qki x b w hb hb1
 have h3:=fun w=>qki x c w hc hc1
 have e : qe9 x a b c = qd3 x a ^^^ qd3 x b ^^^ qd3 x c:=rfl
 rw [e]
 clear e
 generalize qd3 x a = y1 at *
 generalize qd3 x b = y2 at *
 generalize qd3 x c = y3 at *
 go_enter Tryz.func108,Tryz.ntmps108
 go_wp2
 go_quiet (first
  | (go_at_call 110;with_reducible exact Calls.quiet_of_same (h1 _))
  | (go_at_call 110;with_reducible exact Calls.quiet_of_same (h2 _))
  | (go_at_call 110;with_reducible exact Calls.quiet_of_same (h3 _)))
 go_wp2
 go_ret
 exact ⟨rfl,Ext.drewN (qaa _ _) _⟩
end Go.Proofs.YtgeihelkkhjjaaaGreatDoor
end
section
namespace Go.Cv.Hash
open Go.RowKit
def wv32 (x : UInt32) : Value:=.int .u32 (n32 x)
structure St32 where
 (a b c d e f g h : UInt32)
def St32.l (s : St32) : List UInt32:=[s.a,s.b,s.c,s.d,s.e,s.f,s.g,s.h]
def wv64 (x : UInt64) : Value:=.int .u64 (n64 x)
structure St64 where
 (a b c d e f g h : UInt64)
def St64.l (s : St64) : List UInt64:=[s.a,s.b,s.c,s.d,s.e,s.f,s.g,s.h]
def qof (l : List UInt64) : UInt64:=qdg (l.getD (l.length - 2) 0) 19 61 6 + l.getD (l.length - 7) 0 + qdg (l.getD (l.length - 15) 0) 1 8 7 + l.getD (l.length - 16) 0
def qfz : Nat→List UInt64→List UInt64
 | 0,l=>l
 | n + 1,l=>qfz n (l ++ [qof l])
def ql2 (s : St64) (k x : UInt64) : UInt64:=s.h + qe9 s.e 14 18 41 + (s.e &&& s.f ^^^ ~~~s.e &&& s.g) + k + x
def qrj (s : St64) : UInt64:=qe9 s.a 28 34 39 + (s.a &&& s.b ^^^ s.a &&& s.c ^^^ s.b &&& s.c)
def qn7 (s : St64) (k x : UInt64) : St64:=⟨ql2 s k x + qrj s,s.a,s.b,s.c,s.d + ql2 s k x,s.e,s.f,s.g⟩
def qex : List UInt64→List UInt64→St64→St64
 | k :: ks,x :: xs,s=>qex ks xs (qn7 s k x)
 | _,_,s=>s
def qkj (s t : St64) : St64:=⟨s.a + t.a,s.b + t.b,s.c + t.c,s.d + t.d,s.e + t.e,s.f + t.f,s.g + t.g,s.h + t.h⟩
def qc4 (ks : List UInt64) (ws : List UInt64) (s : St64) : St64:=qkj s (qex ks (qfz (80 - 16) (ws.take 16)) s)
def qim (h v : List UInt64) : Nat→List UInt64
 | 0=>h
 | i + 1=>(qim h v i).set i (h.getD i 0 + v.getD i 0)
theorem qlf (h v : List UInt64) : ∀ i j,i ≤ j→(qim h v i).getD j 0 = h.getD j 0
 | 0,_,_=>rfl
 | i + 1,j,hj=>by
  simp only [qim]
  rw [List.getD_eq_getElem?_getD,List.getElem?_set_ne (by omega),← List.getD_eq_getElem?_getD]
  exact qlf h v i j (by omega)
theorem qr1 (s t : St64) : qim s.l t.l 8 = (qkj s t).l:=rfl
theorem qbo (l : List UInt64) (i : Nat) (h : i < l.length) : l.getD i 0 = l[i]:=by simp [List.getD,List.getElem?_eq_getElem h]
theorem nxt_at64 (cs : List UInt64) (i : Nat) (h16 : 16 ≤ i) (hi : i < cs.length) :
  qof (cs.take i) = qdg (cs.getD (i - 2) 0) 19 61 6 + cs.getD (i - 7) 0 + qdg (cs.getD (i - 15) 0) 1 8 7 + cs.getD (i - 16) 0:=by
 have hl : (cs.take i).length = i:=by simp;omega
 have ht : ∀ k,k < i→(cs.take i).getD k 0 = cs.getD k 0:=fun k hk=>by
  rw [List.getD_eq_getElem?_getD,List.getElem?_take_of_lt hk,← List.getD_eq_getElem?_getD]
 unfold qof
 rw [hl,ht _ (by omega),ht _ (by omega),ht _ (by omega),ht _ (by omega)]
theorem qir (cs : List UInt64) (i : Nat) (v : UInt64) (hi : i < cs.length) : (cs.set i v).take (i + 1) = cs.take i ++ [v]:=by
 rw [List.take_succ_eq_append_getElem (by simpa using hi)]
 simp [List.take_set_of_le]
end Go.Cv.Hash
end
