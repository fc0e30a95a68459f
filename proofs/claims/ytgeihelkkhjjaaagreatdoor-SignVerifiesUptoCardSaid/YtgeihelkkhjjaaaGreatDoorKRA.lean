/-
  Texts of the lemmas below the claim, put together: RA RB.
-/
import Derived.Test.YtgeihelkkhjjaaaGreatDoorKDP
import Derived.Deep.AppendLies
import Derived.Laws.MakeOwn
import Derived.Deep.RegionLaw
set_option linter.unusedSimpArgs false
set_option linter.unusedVariables false
set_option maxRecDepth 20000
set_option maxHeartbeats 4000000
section
section
namespace Go.Cv.Dig
open Go.RowKit
theorem qhj {l : List Nat} {m : Nat} (h : ∀ j,m ≤ j→dg l j = 0) : dval (l.take m) = dval l:=by
 have h2 : dval (l.drop m) = 0:=qfk fun d hd=>by
  obtain ⟨i,hi,rfl⟩:=List.mem_iff_getElem.1 hd
  have h3:=h (m + i) (by omega)
  rw [List.length_drop] at hi
  rw [qdw (by omega)] at h3
  rw [List.getElem_drop]
  exact h3
 have e : dval l = dval (l.take m ++ l.drop m):=by rw [List.take_append_drop]
 rw [e,qf6,h2]
 omega
theorem qis {l : List Nat} {m : Nat} (hs : qa4 l) (hm : m ≤ l.length) (h : m = 0 ∨ dg l (m - 1) ≠ 0) : Canon (l.take m):=by
 rcases h with rfl | h
 ·simp [Canon.nil_]
 ·rcases m with _ | k
  ·simp [Canon.nil_]
  ·refine ⟨hs.take _,?_⟩
   rw [List.getLast?_take]
   simp only [Nat.add_one_ne_zero,if_false,Nat.add_sub_cancel] at h ⊢
   rw [List.getElem?_eq_getElem (by omega)]
   rw [qdw (by omega)] at h
   simpa using h
end Go.Cv.Dig
namespace Go.Proofs.YtgeihelkkhjjaaaGreatDoor
open Go.RowKit Go.Cv Go.Cv.Dig

theorem qf7 (A : Option Addr) (n cap : Nat) (l : List Nat) (w : World) (hn : l.length = n) (hs : qa4 l) (hr : Rd w A (l.map iv)) (hm : n ≤ 140737488355328) (hcap : n ≤ cap) :
  Calls Tryz.prog 62 #[.slice A n cap] w fun e w'=>∃ m,e = .returned (.slice A m cap)∧m ≤ n∧dval (l.take m) = dval l∧Canon (l.take m)∧w' = w:=by
 subst hn
 have HS:=Lib.hid hs
 clear hs
 go_enter Tryz.func62,Tryz.ntmps62
 go_wp2
 go_loop [3] (fun t=>∃ m : Nat,m ≤ l.length∧t = .int .i64 m∧∀ j,m ≤ j→dg l j = 0) (fun t=>(intOf t).toNat)
 case atStart=>exact ⟨_,Nat.le_refl _,rfl,fun j h=>qhi h⟩
 case round =>
  obtain ⟨m,hml,rfl,hz⟩:=hrel
  have HZ:=Lib.hid hz
  clear hz
  rcases m with _ | k
  ·go_wp2
   go_ret
   exact ⟨0,by simp [go_sem],Nat.zero_le _,qhj HZ.out,qis HS.out (Nat.zero_le _) (.inl rfl),rfl⟩
  ·obtain ⟨ad,rfl,hc⟩:=hr.at_ (k:=k) (by rw [List.length_map];omega)
   rw [List.getElem_map] at hc
   have HD : Hid (dg l k = l[k]):=Lib.hid (qdw (by omega))
   have hk : ((k + 1 : Nat) : Int) - 1 = (k : Int):=by omega
   generalize l[k] = d at *
   by_cases h0 : d = 0
   ·subst h0
    go_wp2
    go_round
    case rel=>exact ⟨k,by omega,by go_num,fun j hj=>by
     by_cases hjk : j = k
     ·subst hjk;exact HD.out
     ·exact HZ.out j (by omega)⟩
    case measure=>simp [intOf]
   ·have h0' : ¬ ((d : Int) = 0):=by omega
    go_wp2
    go_ret
    exact ⟨k + 1,by simp [go_sem],hml,qhj HZ.out,qis HS.out hml (.inr (by show dg l k ≠ 0;rw [HD.out];exact h0)),rfl⟩

def qfm (x y : Nat) (c : Int) : Prop:=(x < y∧c = -1) ∨ (x = y∧c = 0) ∨ (y < x∧c = 1)
theorem qmf (A B : Option Addr) (n1 n2 c1 c2 : Nat) (l m : List Nat) (w : World) (hn1 : l.length = n1) (hn2 : m.length = n2) (hl : Canon l) (hm : Canon m)
  (hr1 : Rd w A (l.map iv)) (hr2 : Rd w B (m.map iv)) (hb1 : n1 ≤ 140737488355328) (hb2 : n2 ≤ 140737488355328) :
  Calls Tryz.prog 30 #[.slice A n1 c1,.slice B n2 c2] w fun e w'=>∃ c,e = .returned (.int .i64 c)∧qfm (dval l) (dval m) c∧Ext w w':=by
 have HL:=Lib.hid hl
 have HM:=Lib.hid hm
 clear hl hm
 by_cases hlen : n1 = n2
 ·subst hlen
  have HN1:=Lib.hid hn1
  have HN2:=Lib.hid hn2
  clear hn1 hn2
  go_enter Tryz.func30,Tryz.ntmps30
  go_wp2
  go_loopw [5] (fun t wr=>∃ k : Nat,k ≤ n1∧t = .int .i64 ((k : Int) - 1)∧Ext w wr∧hi l k = hi m k) (fun t _=>(intOf t + 1).toNat)
  case atStart=>exact ⟨n1,Nat.le_refl _,rfl,Ext.refl _,by unfold hi;rw [List.drop_of_length_le (Nat.le_of_eq HN1.out),List.drop_of_length_le (Nat.le_of_eq HN2.out)]⟩
  case round =>
   obtain ⟨k,hk,rfl,hE,hh⟩:=hrel
   obtain ⟨x,rfl⟩:=qah hE
   clear hE
   have HH:=Lib.hid hh
   clear hh
   rcases k with _ | j
   ·go_wp2
    go_ret
    refine ⟨0,rfl,.inr (.inl ⟨?_,rfl⟩),qad _ _⟩
    have h:=HH.out
    unfold hi at h
    rwa [List.drop_zero,List.drop_zero] at h
   ·obtain ⟨ad,rfl,hc⟩:=(hr1.ext (qad w x)).at_ (k:=j) (by rw [List.length_map];have:=HN1.out;have:=HN2.out;omega)
    obtain ⟨bd,rfl,hd⟩:=(hr2.ext (qad w x)).at_ (k:=j) (by rw [List.length_map];have:=HN1.out;have:=HN2.out;omega)
    rw [List.getElem_map] at hc hd
    have e : ((j + 1 : Nat) : Int) - 1 = (j : Int):=by omega
    rw [e]
    have hj1 : j < l.length:=by have:=HN1.out;omega
    have hj2 : j < m.length:=by have:=HN2.out;omega
    have hjn : j < n1:=by omega
    have D1 : Hid (dg l j = l[j]):=Lib.hid (qdw hj1)
    have D2 : Hid (dg m j = m[j]):=Lib.hid (qdw hj2)
    generalize l[j] = d1 at *
    generalize m[j] = d2 at *
    replace hj1:=Lib.hid hj1
    replace hj2:=Lib.hid hj2
    by_cases h1 : d1 < d2
    ·have h1' : (d1 : Int) < (d2 : Int):=by omega
     go_wp2
     go_quiet (fail)
     go_wp2
     go_ret
     refine ⟨-1,rfl,.inl ⟨?_,rfl⟩,by (repeat (first | exact qad _ _ | exact Ext.refl _ | refine Ext.drewN ?_ _ | refine Ext.trans ?_ (qae _)))⟩
     exact qnb HL.out.1 hj1.out hj2.out HH.out (by rw [D1.out,D2.out];exact h1)
    ·have h1' : ¬ (d1 : Int) < (d2 : Int):=by omega
     by_cases h2 : d2 < d1
     ·have h2' : (d2 : Int) < (d1 : Int):=by omega
      go_wp2
      go_quiet (fail)
      go_wp2
      go_quiet (fail)
      go_wp2
      go_ret
      refine ⟨1,rfl,.inr (.inr ⟨?_,rfl⟩),by (repeat (first | exact qad _ _ | exact Ext.refl _ | refine Ext.drewN ?_ _ | refine Ext.trans ?_ (qae _)))⟩
      exact qnb HM.out.1 hj2.out hj1.out HH.out.symm (by rw [D1.out,D2.out];exact h2)
     ·have h2' : ¬ (d2 : Int) < (d1 : Int):=by omega
      have he : d1 = d2:=by omega
      go_wp2
      go_quiet (fail)
      go_wp2
      go_quiet (fail)
      go_wp2
      refine ⟨?_,by simp [intOf]⟩
      exact ⟨j,by omega,rfl,by (repeat (first | exact qad _ _ | exact Ext.refl _ | refine Ext.drewN ?_ _ | refine Ext.trans ?_ (qae _))),hi_eq HH.out hj1.out hj2.out (by rw [D1.out,D2.out,he])⟩
 ·subst hn1 hn2
  by_cases hlt : l.length < m.length
  ·go_enter Tryz.func30,Tryz.ntmps30
   go_wp2
   go_ret
   exact ⟨-1,rfl,.inl ⟨Canon.len_lt HL.out HM.out hlt,rfl⟩,Ext.refl _⟩
  ·have hgt : m.length < l.length:=by omega
   go_enter Tryz.func30,Tryz.ntmps30
   go_wp2
   go_ret
   exact ⟨1,rfl,.inr (.inr ⟨Canon.len_lt HM.out HL.out hgt,rfl⟩),Ext.refl _⟩
end Go.Proofs.YtgeihelkkhjjaaaGreatDoor
end
section
namespace Go.Cv.Dig
open Go.RowKit
theorem qp1 {D P i c x y X Y : Nat} (h : D + P * c = X + Y) :
  D + P * ((x + y + c) % 16777216) + P * 16777216 * ((x + y + c) / 16777216) = X + P * x + (Y + P * y):=by
 have e:=Nat.mod_add_div (x + y + c) 16777216
 have e2 : P * ((x + y + c) % 16777216 + 16777216 * ((x + y + c) / 16777216)) = P * (x + y + c):=by rw [e]
 rw [Nat.mul_add,← Nat.mul_assoc] at e2
 rw [Nat.mul_add,Nat.mul_add] at e2
 omega
structure PlusInv (a b ds : List Nat) (c i : Nat) : Prop where
 len : ds.length = i
 small : qa4 ds
 carry : c ≤ 1
 val : dval ds + 16777216 ^ i * c = lo a i + lo b i
 far : c ≠ 0→i ≤ a.length ∨ i ≤ b.length
 le : i ≤ a.length + b.length + 1
 last : c = 0→a.length ≤ i→b.length ≤ i→ds.getLast? ≠ some 0
theorem PlusInv.start (a b : List Nat) : PlusInv a b [] 0 0:=⟨rfl,qa4.nil_,by omega,by simp [dval,lo],fun h=>absurd rfl h,by omega,fun _ _ _=>by simp⟩
theorem Canon.top {l : List Nat} (h : Canon l) {i : Nat} (hi : i < l.length) (ht : l.length ≤ i + 1) : dg l i ≠ 0:=by
 have h2:=h.2
 have e : i = l.length - 1:=by omega
 rw [List.getLast?_eq_getElem?,← e,List.getElem?_eq_getElem hi] at h2
 rw [qdw hi]
 intro h0
 exact h2 (by rw [h0])
theorem PlusInv.step {a b ds : List Nat} {c i : Nat} (ha : Canon a) (hb : Canon b) (h : PlusInv a b ds c i) (hg : i < a.length ∨ i < b.length ∨ 0 < c) :
  PlusInv a b (ds ++ [(dg a i + dg b i + c) % 16777216]) ((dg a i + dg b i + c) / 16777216) (i + 1):=by
 have h1:=ha.1.dg i
 have h2:=hb.1.dg i
 have hc:=h.carry
 refine ⟨by simp [h.len],h.small.snoc (Nat.mod_lt _ (by decide)),by omega,?_,fun h0=>?_,?_,fun h0 hla hlb=>?_⟩
 ·rw [qdv,h.len,qb5,qb5,Nat.pow_succ]
  exact qp1 (i:=i) h.val
 ·by_cases hia : i < a.length
  ·exact .inl hia
  ·by_cases hib : i < b.length
   ·exact .inr hib
   ·rw [qhi (by omega),qhi (by omega)] at h0
    omega
 ·have:=h.far
  by_cases hc0 : c = 0
  ·omega
  ·have:=this hc0
   omega
 ·rw [List.getLast?_append,List.getLast?_singleton]
  simp only [Option.some_or]
  intro he
  have he:=Option.some.inj he
  have hz : dg a i + dg b i + c = 0:=by omega
  rcases hg with hg | hg | hg
  ·have:=ha.top hg hla;omega
  ·have:=hb.top hg hlb;omega
  ·omega
theorem PlusInv.done {a b ds : List Nat} {i : Nat} (h : PlusInv a b ds 0 i) (hla : a.length ≤ i) (hlb : b.length ≤ i) : Canon ds∧dval ds = dval a + dval b:=by
 refine ⟨⟨h.small,h.last rfl hla hlb⟩,?_⟩
 have:=h.val
 rw [qdy hla,qdy hlb] at this
 omega
end Go.Cv.Dig
namespace Go.Proofs.YtgeihelkkhjjaaaGreatDoor
open Go.RowKit Go.Cv Go.Cv.Dig

def Num (w : World) (v : Value) (x N : Nat) : Prop:=∃ A n c l,v = .slice A n c∧l.length = n∧n ≤ c∧Rd w A (l.map iv)∧Canon l∧dval l = x∧n ≤ N
theorem Num.mk {w : World} {x N : Nat} {A : Option Addr} {n c : Nat} {l : List Nat} (hn : l.length = n) (hc : n ≤ c) (hr : Rd w A (l.map iv)) (hl : Canon l) (hx : dval l = x) (hN : n ≤ N) : Num w (.slice A n c) x N :=
 ⟨A,n,c,l,rfl,hn,hc,hr,hl,hx,hN⟩
theorem Num.ext {w w' : World} {v : Value} {x N : Nat} (h : Num w v x N) (hx : Ext w w') : Num w' v x N:=by
 obtain ⟨A,n,c,l,rfl,hn,hc,hr,h⟩:=h
 exact ⟨A,n,c,l,rfl,hn,hc,hr.ext hx,h⟩
theorem qe8 : RowT Tryz.prog 53 3 8:=RowT.of (z:=.int .i64 0) Tryz.underlying53 (by kernel_rfl) rfl

theorem qm6 (A B : Option Addr) (n1 n2 c1 c2 : Nat) (l m : List Nat) (w : World) (hn1 : l.length = n1) (hn2 : m.length = n2) (hl : Canon l) (hm : Canon m)
  (hr1 : Rd w A (l.map iv)) (hr2 : Rd w B (m.map iv)) (hb1 : n1 ≤ 1000000) (hb2 : n2 ≤ 1000000) :
  Calls Tryz.prog 55 #[.slice A n1 c1,.slice B n2 c2] w fun e w'=>∃ v,e = .returned v∧Num w' v (dval l + dval m) (n1 + n2 + 1)∧Ext w w':=by
 have HN1:=Lib.hid hn1
 have HN2:=Lib.hid hn2
 have HL:=Lib.hid hl
 have HM:=Lib.hid hm
 clear hl hm
 go_enter Tryz.func55,Tryz.ntmps55
 go_wp2
 go_loopw [5,6,7,8] (fun v t6 t7 _ wr=>∃ (i c : Nat) (ds : List Nat),t7 = .int .i64 i∧t6 = .int .i64 c∧wr.ownsRow w.heap.size 3 1 v i (ds.map iv)∧Ext w wr∧Hid (PlusInv l m ds c i)∧i ≤ n1 + n2 + 1∧c ≤ 1) (fun _ _ t7 _ _=>n1 + n2 + 2 - (intOf t7).toNat)
 case atStart=>exact ⟨0,0,[],rfl,rfl,World.ownsRow_nil w _ _ 1,Ext.refl _,Lib.hid (PlusInv.start l m),by omega,by omega⟩
 case round =>
  obtain ⟨i,c,ds,rfl,rfl,ho,hE,HP,hi,hc⟩:=hrel
  have hx:=HL.out.1.dg i
  have hy:=HM.out.1.dg i
  obtain ⟨C,cc,rfl,hnc,hcm,hrd,hlen⟩:=qcn ho
  have HS : Hid ((i < l.length ∨ i < m.length ∨ 0 < c)→PlusInv l m (ds ++ [(dg l i + dg m i + c) % 16777216]) ((dg l i + dg m i + c) / 16777216) (i + 1)):=Lib.hid fun hg=>HP.out.step HL.out HM.out hg
  rcases (by omega : i < n1 ∨ (n1 ≤ i∧i < n2) ∨ (n1 ≤ i∧n2 ≤ i∧0 < c) ∨ (n1 ≤ i∧n2 ≤ i∧c = 0)) with h | ⟨h0,h⟩ | ⟨h0,h1,h⟩ | ⟨h0,h1,rfl⟩
  ·have k1 : (i : Int) < (n1 : Int):=by omega
   go_wp2_with (first
     | (go_at_call 79;with_reducible refine (qbr A n1 c1 l i _ HN1.out (hr1.ext hE) (by omega) (by omega)).mono ?_;rintro e w' ⟨rfl,rfl⟩)
     | (go_at_call 79;with_reducible refine (qbr B n2 c2 m i _ HN2.out (hr2.ext hE) (by omega) (by omega)).mono ?_;rintro e w' ⟨rfl,rfl⟩)
     | (at_builtin;refine qbn rfl (.tmp 34) (.tmp 37) 53 3 8 rfl qe8 w.heap.size _ i _ rfl (qbc ho (qaa _ _)) _ 1 1 [iv ((dg l i + dg m i + c) % 16777216)] rfl rfl (qbk _ _ _) (qb0 [_]) (by simp [maxLen];omega) (by omega) (hE.trans (qaa _ _)).size ?_;intro A2 c2' w2 ho2 hc2 hm2 hr2' hE2 hg2;have hEn:=hE2 w (hE.trans (qaa _ _)) (Nat.le_refl _);clear hE2 hg2 hr2'))
   refine ⟨⟨i + 1,(dg l i + dg m i + c) / 16777216,ds ++ [(dg l i + dg m i + c) % 16777216],by go_num,rfl,by rw [List.map_append];exact ho2,hEn,Lib.hid (HS.out (by rw [HN1.out,HN2.out];omega)),by omega,by omega⟩,by simp [intOf];omega⟩
  ·have k1 : ¬ (i : Int) < (n1 : Int):=by omega
   have k2 : (i : Int) < (n2 : Int):=by omega
   go_wp2_with (first
     | (go_at_call 79;with_reducible refine (qbr A n1 c1 l i _ HN1.out (hr1.ext hE) (by omega) (by omega)).mono ?_;rintro e w' ⟨rfl,rfl⟩)
     | (go_at_call 79;with_reducible refine (qbr B n2 c2 m i _ HN2.out (hr2.ext hE) (by omega) (by omega)).mono ?_;rintro e w' ⟨rfl,rfl⟩)
     | (at_builtin;refine qbn rfl (.tmp 34) (.tmp 37) 53 3 8 rfl qe8 w.heap.size _ i _ rfl (qbc ho (qaa _ _)) _ 1 1 [iv ((dg l i + dg m i + c) % 16777216)] rfl rfl (qbk _ _ _) (qb0 [_]) (by simp [maxLen];omega) (by omega) (hE.trans (qaa _ _)).size ?_;intro A2 c2' w2 ho2 hc2 hm2 hr2' hE2 hg2;have hEn:=hE2 w (hE.trans (qaa _ _)) (Nat.le_refl _);clear hE2 hg2 hr2'))
   refine ⟨⟨i + 1,(dg l i + dg m i + c) / 16777216,ds ++ [(dg l i + dg m i + c) % 16777216],by go_num,rfl,by rw [List.map_append];exact ho2,hEn,Lib.hid (HS.out (by rw [HN1.out,HN2.out];omega)),by omega,by omega⟩,by simp [intOf];omega⟩
  ·have k1 : ¬ (i : Int) < (n1 : Int):=by omega
   have k2 : ¬ (i : Int) < (n2 : Int):=by omega
   have k3 : (0 : Int) < (c : Int):=by omega
   go_wp2_with (first
     | (go_at_call 79;with_reducible refine (qbr A n1 c1 l i _ HN1.out (hr1.ext hE) (by omega) (by omega)).mono ?_;rintro e w' ⟨rfl,rfl⟩)
     | (go_at_call 79;with_reducible refine (qbr B n2 c2 m i _ HN2.out (hr2.ext hE) (by omega) (by omega)).mono ?_;rintro e w' ⟨rfl,rfl⟩)
     | (at_builtin;refine qbn rfl (.tmp 34) (.tmp 37) 53 3 8 rfl qe8 w.heap.size _ i _ rfl (qbc ho (qaa _ _)) _ 1 1 [iv ((dg l i + dg m i + c) % 16777216)] rfl rfl (qbk _ _ _) (qb0 [_]) (by simp [maxLen];omega) (by omega) (hE.trans (qaa _ _)).size ?_;intro A2 c2' w2 ho2 hc2 hm2 hr2' hE2 hg2;have hEn:=hE2 w (hE.trans (qaa _ _)) (Nat.le_refl _);clear hE2 hg2 hr2'))
   refine ⟨⟨i + 1,(dg l i + dg m i + c) / 16777216,ds ++ [(dg l i + dg m i + c) % 16777216],by go_num,rfl,by rw [List.map_append];exact ho2,hEn,Lib.hid (HS.out (by rw [HN1.out,HN2.out];omega)),by have:=HP.out.far (by omega);rw [HN1.out,HN2.out] at this;omega,by omega⟩,by simp [intOf];omega⟩
  ·have k1 : ¬ (i : Int) < (n1 : Int):=by omega
   have k2 : ¬ (i : Int) < (n2 : Int):=by omega
   go_wp2
   go_ret
   have hd:=HP.out.done (by rw [HN1.out];exact h0) (by rw [HN2.out];exact h1)
   exact ⟨_,rfl,Num.mk HP.out.len hnc hrd hd.1 hd.2 hi,hE⟩
end Go.Proofs.YtgeihelkkhjjaaaGreatDoor
end
section
namespace Go.Cv.Dig
open Go.RowKit
structure LessInv (a b ds : List Nat) (o i : Nat) : Prop where
 len : ds.length = i
 small : qa4 ds
 owed : o ≤ 1
 val : dval ds + lo b i = lo a i + 16777216 ^ i * o
theorem LessInv.start (a b : List Nat) : LessInv a b [] 0 0:=⟨rfl,qa4.nil_,by omega,by simp [dval,lo]⟩
theorem LessInv.up {a b ds : List Nat} {o i : Nat} (ha : qa4 a) (h : LessInv a b ds o i) (hg : dg b i + o ≤ dg a i) : LessInv a b (ds ++ [dg a i - dg b i - o]) 0 (i + 1):=by
 have h1:=ha.dg i
 refine ⟨by simp [h.len],h.small.snoc (by omega),by omega,?_⟩
 have hv:=h.val
 rw [qdv,h.len,qb5,qb5,Nat.mul_zero]
 have e : 16777216 ^ i * (dg a i - dg b i - o) + 16777216 ^ i * dg b i + 16777216 ^ i * o = 16777216 ^ i * dg a i:=by
  rw [← Nat.mul_add,← Nat.mul_add]
  congr 1
  omega
 omega
theorem LessInv.down {a b ds : List Nat} {o i : Nat} (hb : qa4 b) (h : LessInv a b ds o i) (hg : dg a i < dg b i + o) : LessInv a b (ds ++ [dg a i + 16777216 - dg b i - o]) 1 (i + 1):=by
 have h1:=hb.dg i
 have ho:=h.owed
 refine ⟨by simp [h.len],h.small.snoc (by omega),by omega,?_⟩
 have hv:=h.val
 rw [qdv,h.len,qb5,qb5,Nat.mul_one,Nat.pow_succ]
 have e : 16777216 ^ i * (dg a i + 16777216 - dg b i - o) + 16777216 ^ i * dg b i + 16777216 ^ i * o = 16777216 ^ i * dg a i + 16777216 ^ i * 16777216:=by
  rw [← Nat.mul_add,← Nat.mul_add,← Nat.mul_add]
  congr 1
  omega
 omega
theorem LessInv.done {a b ds : List Nat} {o : Nat} (hb : b.length ≤ a.length) (hle : dval b ≤ dval a) (h : LessInv a b ds o a.length) : dval ds = dval a - dval b:=by
 have hv:=h.val
 rw [qdy hb,qdy (Nat.le_refl _)] at hv
 have h1:=h.small.lt
 rw [h.len] at h1
 have ho:=h.owed
 rcases (by omega : o = 0 ∨ o = 1) with rfl | rfl
 ·omega
 ·omega
theorem Canon.le_len {a b : List Nat} (ha : Canon a) (hb : Canon b) (h : dval b ≤ dval a) : b.length ≤ a.length:=by
 rcases Nat.lt_or_ge a.length b.length with h1 | h1
 ·have:=Canon.len_lt ha hb h1
  omega
 ·exact h1
end Go.Cv.Dig
namespace Go.Proofs.YtgeihelkkhjjaaaGreatDoor
open Go.RowKit Go.Cv Go.Cv.Dig

theorem qnc (A B : Option Addr) (n1 n2 c1 c2 : Nat) (l m : List Nat) (w0 : World) (hn1 : l.length = n1) (hn2 : m.length = n2) (hl : Canon l) (hm : Canon m) (hle : dval m ≤ dval l)
  (hr1 : Rd w0 A (l.map iv)) (hr2 : Rd w0 B (m.map iv)) (hb1 : n1 ≤ 1000000) (hb2 : n2 ≤ 1000000) :
  Calls Tryz.prog 80 #[.slice A n1 c1,.slice B n2 c2] w0 fun e w'=>∃ v,e = .returned v∧Num w' v (dval l - dval m) n1∧Ext w0 w':=by
 have HN1:=Lib.hid hn1
 have HN2:=Lib.hid hn2
 have HL:=Lib.hid hl
 have HM:=Lib.hid hm
 have HLE:=Lib.hid hle
 clear hl hm hle hn1 hn2
 go_enter Tryz.func80,Tryz.ntmps80
 go_wp2
 go_loopw [5,6,7,8] (fun v t6 t7 _ wr=>∃ (i o : Nat) (ds : List Nat),t7 = .int .i64 i∧t6 = .int .i64 o∧wr.ownsRow w0.heap.size 3 1 v i (ds.map iv)∧Ext w0 wr∧Hid (LessInv l m ds o i)∧i ≤ n1∧o ≤ 1) (fun _ _ t7 _ _=>n1 - (intOf t7).toNat)
 case atStart=>exact ⟨0,0,[],rfl,rfl,World.ownsRow_nil w0 _ _ 1,Ext.refl _,Lib.hid (LessInv.start l m),by omega,by omega⟩
 case round =>
  rename_i wr
  obtain ⟨i,o,ds,rfl,rfl,ho,hE,HP,hi,hc⟩:=hrel
  have hx:=HL.out.1.dg i
  have hy:=HM.out.1.dg i
  obtain ⟨C,cc,rfl,hnc,hcm,hrd,hlen⟩:=qcn ho
  by_cases hlt : i < n1
  ·obtain ⟨ad,rfl,hcell⟩:=hr1.at_ (k:=i) (by rw [List.length_map];have:=HN1.out;omega)
   rw [List.getElem_map,← qdw] at hcell
   have U:=Lib.hid (fun hg=>HP.out.up HL.out.1 hg)
   have D:=Lib.hid (fun hg=>HP.out.down HM.out.1 hg)
   go_upto_region 6 with fail
   refine qbd (fun w'=>Ext wr w') (by kernel_rfl) (qae _) ?_
   refine gS (i:=0) (some 15) (v:=?_) rfl rfl (by kernel_rfl) (fun _ _ _ h=>h) (by rfl) (fun w hS=>?_) ?_
   rotate_left
   ·(try go_simp)
    refine ⟨?_,hS⟩
    with_reducible rfl
   simp only [Act.put,zA,zB,zC]
   refine gS (i:=1) (some 16) (v:=?_) rfl rfl (by kernel_rfl) (fun _ _ _ h=>h) (by rfl) (fun w hS=>?_) ?_
   rotate_left
   ·(try go_simp)
    refine ⟨?_,hS⟩
    with_reducible rfl
   simp only [Act.put,zA,zB,zC]
   refine gS (i:=2) (some 17) (v:=?_) rfl rfl (by kernel_rfl) (fun _ _ _ h=>h) (by rfl) (fun w hS=>?_) ?_
   rotate_left
   ·(try go_simp)
    refine ⟨?_,hS⟩
    with_reducible rfl
   simp only [Act.put,zA,zB,zC]
   refine gS (i:=3) (some 18) (v:=?_) rfl rfl (by kernel_rfl) (fun _ _ _ h=>h) (by rfl) (fun w hS=>?_) ?_
   rotate_left
   ·have e1:=(hE.trans hS).cell hcell
    (try go_simp)
    refine ⟨?_,hS⟩
    with_reducible rfl
   simp only [Act.put,zA,zB,zC]
   refine gS (i:=4) (some 19) (v:=?_) rfl rfl (by kernel_rfl) (fun _ _ _ h=>h) (by rfl) (fun w hS=>?_) ?_
   rotate_left
   ·(try go_simp)
    refine ⟨?_,hS⟩
    with_reducible rfl
   simp only [Act.put,zA,zB,zC]
   refine gS (i:=5) (some 20) (v:=?_) rfl rfl (by kernel_rfl) (fun _ _ _ h=>h) (by rfl) (fun w hS=>?_) ?_
   rotate_left
   ·(try go_simp)
    refine ⟨?_,hS⟩
    with_reducible rfl
   simp only [Act.put,zA,zB,zC]
   refine gS (i:=6) (some 21) (v:=?_) rfl rfl (by kernel_rfl) (fun _ _ _ h=>h) (by rfl) (fun w hS=>?_) ?_
   rotate_left
   ·go_simp
    change Calls _ _ _ _ _
    refine Calls.mono (qbr B n2 c2 m i _ HN2.out (hr2.ext (hE.trans hS)) (by omega) (by omega)) ?_
    rintro e w' ⟨rfl,rfl⟩
    refine ⟨?_,hS⟩
    with_reducible rfl
   simp only [Act.put,zA,zB,zC]
   refine gS (i:=7) (some 22) (v:=?_) rfl rfl (by kernel_rfl) (fun _ _ _ h=>h) (by rfl) (fun w hS=>?_) ?_
   rotate_left
   ·(try go_simp)
    refine ⟨?_,hS⟩
    with_reducible rfl
   simp only [Act.put,zA,zB,zC]
   refine gS (i:=8) (some 23) (v:=?_) rfl rfl (by kernel_rfl) (fun _ _ _ h=>h) (by rfl) (fun w hS=>?_) ?_
   rotate_left
   ·(try go_simp)
    refine ⟨?_,hS⟩
    with_reducible rfl
   simp only [Act.put,zA,zB,zC]
   refine gS (i:=9) (some 24) (v:=?_) rfl rfl (by kernel_rfl) (fun _ _ _ h=>h) (by rfl) (fun w hS=>?_) ?_
   rotate_left
   ·(try go_simp)
    refine ⟨?_,hS⟩
    with_reducible rfl
   simp only [Act.put,zA,zB,zC]
   refine gS (i:=10) (some 8) (v:=?_) rfl rfl (by kernel_rfl) (fun _ _ _ h=>h) (by rfl) (fun w hS=>?_) ?_
   rotate_left
   ·(try go_simp)
    refine ⟨?_,hS⟩
    with_reducible rfl
   simp only [Act.put,zA,zB,zC]
   refine qbv (by kernel_rfl) fun w hS=>?_
   replace ho:=qbc ho hS
   replace hE:=hE.trans hS
   clear hS hcell
   have hw1 : IntKind.i64.wrap ((dg l i : Int) - (dg m i : Int)) = (dg l i : Int) - (dg m i : Int):=IntWalk.i64_in _ (by omega)
   have hw2 : IntKind.i64.wrap ((dg l i : Int) - (dg m i : Int) - (o : Int)) = (dg l i : Int) - (dg m i : Int) - (o : Int):=IntWalk.i64_in _ (by omega)
   rw [hw1,hw2]
   clear hw1 hw2
   by_cases hg : dg m i + o ≤ dg l i
   ·obtain ⟨t,ht,hte⟩ : ∃ t : Nat,(dg l i : Int) - (dg m i : Int) - (o : Int) = (t : Int)∧t = dg l i - dg m i - o:=⟨_,by omega,rfl⟩
    rw [ht]
    have HU:=Lib.hid (U.out hg)
    rw [← hte] at HU
    have k1 : ¬ (t : Int) < 0:=by omega
    have k2 : t < 16777216:=by omega
    clear ht hte hg U D
    go_wp2_with (at_builtin;refine qbn rfl (.tmp 29) (.tmp 31) 53 3 8 rfl qe8 w0.heap.size _ i _ rfl (qbc ho (qaa _ _)) _ 1 1 [iv t] rfl rfl (qbk _ _ _) (qb0 [_]) (by simp [maxLen];omega) (by omega) (hE.trans (qaa _ _)).size ?_;intro A2 c2' w2 ho2 hc2 hm2 hr2' hE2 hg2;have hEn:=hE2 w0 (hE.trans (qaa _ _)) (Nat.le_refl _);clear hE2 hg2 hr2')
    refine ⟨⟨i + 1,0,ds ++ [t],by go_num,rfl,by rw [List.map_append];exact ho2,hEn,HU,by omega,by omega⟩,by simp [intOf];omega⟩
   ·obtain ⟨t,ht,hte⟩ : ∃ t : Nat,(dg l i : Int) - (dg m i : Int) - (o : Int) = (t : Int) - 16777216∧t = dg l i + 16777216 - dg m i - o:=⟨_,by omega,rfl⟩
    rw [ht]
    have HU:=Lib.hid (D.out (by omega))
    rw [← hte] at HU
    have k1 : (t : Int) - 16777216 < 0:=by omega
    have k2 : t < 16777216:=by omega
    have k3 : IntKind.i64.wrap ((t : Int) - 16777216 + 16777216) = (t : Int):=by rw [IntWalk.i64_in _ (by omega)];omega
    clear ht hte hg U D
    go_wp2_with (at_builtin;refine qbn rfl (.tmp 29) (.tmp 31) 53 3 8 rfl qe8 w0.heap.size _ i _ rfl (qbc ho (qaa _ _)) _ 1 1 [iv t] rfl rfl (qbk _ _ _) (qb0 [_]) (by simp [maxLen];omega) (by omega) (hE.trans (qaa _ _)).size ?_;intro A2 c2' w2 ho2 hc2 hm2 hr2' hE2 hg2;have hEn:=hE2 w0 (hE.trans (qaa _ _)) (Nat.le_refl _);clear hE2 hg2 hr2')
    refine ⟨⟨i + 1,1,ds ++ [t],by go_num,rfl,by rw [List.map_append];exact ho2,hEn,HU,by omega,by omega⟩,by simp [intOf];omega⟩
  ·have hin : i = n1:=by omega
   subst hin
   have hln:=Canon.le_len HL.out HM.out HLE.out
   have hdv : Hid (dval ds = dval l - dval m):=Lib.hid (by
    have hq:=HP.out
    rw [← HN1.out] at hq
    exact hq.done hln HLE.out)
   clear hln
   go_wp2_with (go_at_call 62;with_reducible refine (qf7 C i cc ds _ HP.out.len HP.out.small hrd (by omega) hnc).mono ?_;rintro e w' ⟨r,rfl,hri,hrv,hrc,rfl⟩)
   go_ret
   exact ⟨_,rfl,Num.mk (by rw [List.length_take,HP.out.len,Nat.min_eq_left hri]) (by omega) (by rw [List.map_take];exact hrd.take r) hrc (by rw [hrv,hdv.out]) hri,hE⟩
end Go.Proofs.YtgeihelkkhjjaaaGreatDoor
end
section
namespace Go.Cv.Dig
open Go.RowKit
theorem qp2 {l : List Nat} (hl : Canon l) (h : l.length < 11 ∨ l.length = 11∧dg l 10 < 32767) : dval l < 2 ^ 255 - 19:=by
 rcases h with h | ⟨h1,h2⟩
 ·have:=hl.1.lt
  have h3 : 16777216 ^ l.length ≤ 16777216 ^ 10:=Nat.pow_le_pow_right (by decide) (by omega)
  omega
 ·have h3:=qoi l (i:=10) (by omega)
  have h4:=qqs hl.1 10
  have h5 : hi l 10 = dg l 10:=by
   rw [qg1 (by omega)]
   unfold hi
   rw [List.drop_of_length_le (by omega)]
   simp [dval]
  rw [h5] at h3
  omega
theorem qrw {x : Nat} (h : x < 2 ^ 255) : (x < 2 ^ 255 - 19→x = x % (2 ^ 255 - 19))∧(2 ^ 255 - 19 ≤ x→x - (2 ^ 255 - 19) = x % (2 ^ 255 - 19)):=by
 constructor
 ·intro h1
  rw [Nat.mod_eq_of_lt h1]
 ·intro h1
  omega
end Go.Cv.Dig
namespace Go.Proofs.YtgeihelkkhjjaaaGreatDoor
open Go.RowKit Go.Cv Go.Cv.Dig

theorem cmp_ge {x : Nat} {k : Int} (h : qfm x (dval pdig) k) (hx : 2 ^ 255 - 19 ≤ x) : k ≥ 0:=by
 rw [qfh] at h
 unfold qfm at h
 omega
theorem cmp_lt {x : Nat} {k : Int} (h : qfm x (dval pdig) k) (hx : ¬ 2 ^ 255 - 19 ≤ x) : ¬ k ≥ 0:=by
 rw [qfh] at h
 unfold qfm at h
 omega
theorem cmp_p (A B : Option Addr) (c1 c2 : Nat) (l : List Nat) (w : World) (hn1 : l.length = 11) (hl : Canon l)
  (hr1 : Rd w A (l.map iv)) (hr2 : Rd w B (pdig.map iv)) :
  Calls Tryz.prog 30 #[.slice A 11 c1,.slice B 11 c2] w fun e w'=>∃ c,e = .returned (.int .i64 c)∧qfm (dval l) (dval pdig) c∧Ext w w' :=
 qmf A B 11 11 c1 c2 l pdig w hn1 rfl hl qee hr1 hr2 (by decide) (by decide)
theorem less_p (A B : Option Addr) (c1 c2 : Nat) (l : List Nat) (w : World) (hn1 : l.length = 11) (hl : Canon l) (hle : 2 ^ 255 - 19 ≤ dval l)
  (hr1 : Rd w A (l.map iv)) (hr2 : Rd w B (pdig.map iv)) :
  Calls Tryz.prog 80 #[.slice A 11 c1,.slice B 11 c2] w fun e w'=>∃ v,e = .returned v∧Num w' v (dval l - (2 ^ 255 - 19)) 11∧Ext w w':=by
 have h:=qnc A B 11 11 c1 c2 l pdig w hn1 rfl hl qee (by rw [qfh];exact hle) hr1 hr2 (by decide) (by decide)
 rw [qfh] at h
 exact h

theorem qil (A : Option Addr) (n1 c1 : Nat) (l : List Nat) (w : World) (hn1 : l.length = n1) (hl : Canon l) (hv : dval l < 2 ^ 255)
  (hr1 : Rd w A (l.map iv)) (hb1 : n1 ≤ 11) (hc1 : n1 ≤ c1) :
  Calls Tryz.prog 106 #[.slice A n1 c1] w fun e w'=>∃ v,e = .returned v∧Num w' v (dval l % (2 ^ 255 - 19)) 11∧Ext w w':=by
 have HN1:=Lib.hid hn1
 have HL:=Lib.hid hl
 have HB:=Lib.hid (qrw hv)
 have HP:=Lib.hid (qp2 hl)
 clear hl hn1 hv
 by_cases h11 : n1 < 11
 ·have hlt : dval l < 2 ^ 255 - 19:=HP.out (.inl (by rw [HN1.out];exact h11))
  have HE:=Lib.hid (HB.out.1 hlt)
  clear hlt
  go_enter Tryz.func106,Tryz.ntmps106
  go_wp2
  go_ret
  exact ⟨_,rfl,Num.mk HN1.out hc1 hr1 HL.out HE.out hb1,Ext.refl _⟩
 ·obtain rfl : n1 = 11:=by omega
  obtain ⟨ad,rfl,hcell⟩:=hr1.at_ (k:=10) (by rw [List.length_map,HN1.out];decide)
  have hd10:=qdw (l:=l) (i:=10) (by rw [HN1.out];decide)
  rw [List.getElem_map,← hd10] at hcell
  clear hd10
  replace hcell : w.cell? ⟨ad.block,ad.off + 10,none⟩ = some (iv (dg l 10)):=by
   have e : ad.add 10 = ⟨ad.block,ad.off + 10,none⟩:=by unfold Addr.add;rfl
   rw [← e];exact hcell
  by_cases hd : dg l 10 < 32767
  ·have hlt : dval l < 2 ^ 255 - 19:=HP.out (.inr ⟨HN1.out,hd⟩)
   have HE:=Lib.hid (HB.out.1 hlt)
   clear hlt
   have hd' : (dg l 10 : Int) < 32767:=by omega
   go_enter Tryz.func106,Tryz.ntmps106
   go_wp2
   go_ret
   exact ⟨_,rfl,Num.mk HN1.out hc1 hr1 HL.out HE.out (Nat.le_refl _),Ext.refl _⟩
  ·have hd' : ¬ (dg l 10 : Int) < 32767:=by omega
   go_enter Tryz.func106,Tryz.ntmps106
   by_cases hge : 2 ^ 255 - 19 ≤ dval l
   ·have HE:=Lib.hid (HB.out.2 hge)
    have HG:=Lib.hid hge
    clear hge
    go_wp2_with (first
     | (go_at_call 59;with_reducible refine (p_any _).mono ?_;rintro e w' ⟨B,c,rfl,hB,hx⟩)
     | (go_at_call 30;with_reducible refine (cmp_p _ _ _ _ l _ HN1.out HL.out (hr1.ext hx) hB).mono ?_;rintro e w' ⟨k,rfl,hk,hx2⟩;have hk2:=cmp_ge hk HG.out;clear hk)
     | (go_at_call 80;with_reducible refine (less_p _ _ _ _ l _ HN1.out HL.out HG.out (hr1.ext (hx.trans hx2)) (hB.ext hx2)).mono ?_;rintro e w' ⟨v,rfl,hnum,hx3⟩))
    go_ret
    exact ⟨_,rfl,HE.out ▸ hnum,(hx.trans hx2).trans hx3⟩
   ·have HE:=Lib.hid (HB.out.1 (by omega))
    have HG:=Lib.hid hge
    clear hge
    go_wp2_with (first
     | (go_at_call 59;with_reducible refine (p_any _).mono ?_;rintro e w' ⟨B,c,rfl,hB,hx⟩)
     | (go_at_call 30;with_reducible refine (cmp_p _ _ _ _ l _ HN1.out HL.out (hr1.ext hx) hB).mono ?_;rintro e w' ⟨k,rfl,hk,hx2⟩;have hk2:=cmp_lt hk HG.out;clear hk))
    go_ret
    exact ⟨_,rfl,Num.mk HN1.out hc1 (hr1.ext (hx.trans hx2)) HL.out HE.out (Nat.le_refl _),hx.trans hx2⟩
end Go.Proofs.YtgeihelkkhjjaaaGreatDoor
end
end
section
section
namespace Go.Cv.Dig
open Go.RowKit
def lb (l : List UInt8) (j : Nat) : UInt8:=l.getD j 0
theorem lb_lt {l : List UInt8} {j : Nat} (h : j < l.length) : lb l j = l[j]:=by simp [lb,List.getD,List.getElem?_eq_getElem h]
theorem lb_ge {l : List UInt8} {j : Nat} (h : l.length ≤ j) : lb l j = 0:=by simp [lb,List.getD,List.getElem?_eq_none h]
def d3 (g : Nat→UInt8) (i : Nat) : Nat:=(g i).toNat + 256 * ((g (i + 1)).toNat + 256 * (g (i + 2)).toNat)
theorem d3_lt (g : Nat→UInt8) (i : Nat) : d3 g i < 16777216:=by
 have:=(g i).toNat_lt;have:=(g (i + 1)).toNat_lt;have:=(g (i + 2)).toNat_lt
 unfold d3;omega
structure OfInv (g : Nat→UInt8) (ds : List Nat) (i : Nat) : Prop where
 len : 3 * ds.length = i
 small : qa4 ds
 val : dval ds = bsum g i
theorem OfInv.start (g : Nat→UInt8) : OfInv g [] 0:=⟨rfl,qa4.nil_,rfl⟩
theorem OfInv.step {g : Nat→UInt8} {ds : List Nat} {i : Nat} (h : OfInv g ds i) : OfInv g (ds ++ [d3 g i]) (i + 3):=by
 refine ⟨by simp;have:=h.len;omega,h.small.snoc (d3_lt g i),?_⟩
 rw [qdv,h.val]
 simp only [bsum]
 have e : (16777216 : Nat) ^ ds.length = 2 ^ (8 * i):=by
  rw [show (16777216 : Nat) = 2 ^ 24 from rfl,← Nat.pow_mul,← h.len]
  congr 1
  omega
 rw [e,show 8 * (i + 2) = 8 * i + 16 from by omega,show 8 * (i + 1) = 8 * i + 8 from by omega,Nat.pow_add,Nat.pow_add]
 unfold d3
 generalize 2 ^ (8 * i) = P
 rw [Nat.mul_add,Nat.mul_left_comm P 256,Nat.mul_add P,Nat.mul_add 256,Nat.mul_left_comm P 256]
 rw [Nat.mul_assoc,Nat.mul_assoc,Nat.mul_left_comm P (2 ^ 8),Nat.mul_left_comm P (2 ^ 16)]
 omega
theorem qla {g : Nat→UInt8} {n : Nat} : ∀ k,(∀ j,n ≤ j→g j = 0)→bsum g (n + k) = bsum g n
 | 0,_=>rfl
 | k + 1,h=>by
  show bsum g (n + k) + 2 ^ (8 * (n + k)) * (g (n + k)).toNat = _
  rw [qla k h,h (n + k) (by omega)]
  simp
end Go.Cv.Dig
namespace Go.Proofs.YtgeihelkkhjjaaaGreatDoor
open Go.RowKit Go.Cv Go.Cv.Dig

theorem qf8 {w : World} {ad : Addr} {k : Nat} {v : Value} (h : w.cell? (ad.add (k + 1)) = some v) : w.cell? ⟨ad.block,ad.off + (k + 1),none⟩ = some v:=h

theorem qko (A : Option Addr) (n c1 : Nat) (l : List UInt8) (w0 : World) (hn : l.length = n) (hr : Rd w0 A (l.map bv)) (hb : n ≤ 1000000) :
  Calls Tryz.prog 31 #[.slice A n c1] w0 fun e w'=>∃ v,e = .returned v∧Num w' v (bsum (lb l) n) (n + 2)∧Ext w0 w':=by
 have HN:=Lib.hid hn
 clear hn
 go_enter Tryz.func31,Tryz.ntmps31
 go_wp2
 go_loopw [3,4,5,6] (fun v t4 _ _ wr=>∃ (i q : Nat) (ds : List Nat),t4 = .int .i64 i∧wr.ownsRow w0.heap.size 3 1 v q (ds.map iv)∧Ext w0 wr∧Hid (OfInv (lb l) ds i)∧i ≤ n + 2∧3 * q = i) (fun _ t4 _ _ _=>n + 3 - (intOf t4).toNat)
 case atStart=>exact ⟨0,0,[],rfl,World.ownsRow_nil w0 _ _ 1,Ext.refl _,Lib.hid (OfInv.start _),by omega,rfl⟩
 case round =>
  rename_i wr
  obtain ⟨i,q,ds,rfl,ho,hE,HP,hi,hq⟩:=hrel
  obtain ⟨C,cc,rfl,hnc,hcm,hrd,hlen⟩:=qcn ho
  by_cases hlt : i < n
  ·have g0:=(lb l i).toNat_lt
   have g1:=(lb l (i + 1)).toNat_lt
   have g2:=(lb l (i + 2)).toNat_lt
   obtain ⟨ad,rfl,hc0⟩:=(hr.ext hE).at_ (k:=i) (by rw [List.length_map,HN.out];exact hlt)
   rw [List.getElem_map,← lb_lt] at hc0
   have HS : d3 (lb l) i = (lb l i).toNat + 256 * ((lb l (i + 1)).toNat + 256 * (lb l (i + 2)).toNat):=rfl
   replace hc0 : wr.cell? (ad.add i) = some (.int .u8 ((lb l i).toNat : Int)):=hc0
   by_cases h2 : i + 2 < n
   ·obtain ⟨ad2,ha2,hc2⟩:=(hr.ext hE).at_ (k:=i + 2) (by rw [List.length_map,HN.out];exact h2)
    obtain ⟨ad1,ha1,hc1⟩:=(hr.ext hE).at_ (k:=i + 1) (by rw [List.length_map,HN.out];omega)
    cases ha2
    cases ha1
    rw [List.getElem_map,← lb_lt] at hc1 hc2
    replace hc1:=qf8 hc1
    replace hc2:=qf8 hc2
    replace hc1 : wr.cell? ⟨ad.block,ad.off + (i + 1),none⟩ = some (.int .u8 ((lb l (i + 1)).toNat : Int)):=hc1
    replace hc2 : wr.cell? ⟨ad.block,ad.off + (i + 2),none⟩ = some (.int .u8 ((lb l (i + 2)).toNat : Int)):=hc2
    generalize (lb l i).toNat = b0 at *
    generalize (lb l (i + 1)).toNat = b1 at *
    generalize (lb l (i + 2)).toNat = b2 at *
    replace HS : d3 (lb l) i = 256 * (256 * b2 + b1) + b0:=by omega
    have HT : Hid (OfInv (lb l) (ds ++ [256 * (256 * b2 + b1) + b0]) (i + 3)):=Lib.hid (HS ▸ HP.out.step)
    clear HS
    go_wp2
    refine wp_loop_rounds 4 ?_
    rw [rounds_succ]
    go_wp2
    rw [rounds_succ]
    go_wp2
    rw [rounds_succ]
    go_wp2
    rw [rounds_succ]
    go_wp2_with (at_builtin;refine qbn rfl (.tmp 34) (.tmp 36) 53 3 8 rfl qe8 w0.heap.size _ q _ rfl (qbc ho (qaa _ _)) _ 1 1 [iv (256 * (256 * b2 + b1) + b0)] rfl rfl (qbk _ _ _) (qb0 [_]) (by simp [maxLen];omega) (by omega) (hE.trans (qaa _ _)).size ?_;intro A2 c2' w2 ho2 hc2' hm2 hr2' hE2 hg2;have hEn:=hE2 w0 (hE.trans (qaa _ _)) (Nat.le_refl _);clear hE2 hg2 hr2')
    refine ⟨⟨i + 3,q + 1,ds ++ [256 * (256 * b2 + b1) + b0],by go_num,by rw [List.map_append];exact ho2,hEn,HT,by omega,by omega⟩,by simp [intOf];omega⟩
   ·rw [lb_ge (l:=l) (j:=i + 2) (by rw [HN.out];omega)] at HS
    by_cases h1 : i + 1 < n
    ·obtain ⟨ad1,ha1,hc1⟩:=(hr.ext hE).at_ (k:=i + 1) (by rw [List.length_map,HN.out];omega)
     cases ha1
     rw [List.getElem_map,← lb_lt] at hc1
     replace hc1:=qf8 hc1
     replace hc1 : wr.cell? ⟨ad.block,ad.off + (i + 1),none⟩ = some (.int .u8 ((lb l (i + 1)).toNat : Int)):=hc1
     generalize (lb l i).toNat = b0 at *
     generalize (lb l (i + 1)).toNat = b1 at *
     replace HS : d3 (lb l) i = 256 * b1 + b0:=by rw [HS];simp;omega
     have HT : Hid (OfInv (lb l) (ds ++ [256 * b1 + b0]) (i + 3)):=Lib.hid (HS ▸ HP.out.step)
     clear HS
     go_wp2
     refine wp_loop_rounds 4 ?_
     rw [rounds_succ]
     go_wp2
     rw [rounds_succ]
     go_wp2
     rw [rounds_succ]
     go_wp2
     rw [rounds_succ]
     go_wp2_with (at_builtin;refine qbn rfl (.tmp 34) (.tmp 36) 53 3 8 rfl qe8 w0.heap.size _ q _ rfl (qbc ho (qaa _ _)) _ 1 1 [iv (256 * b1 + b0)] rfl rfl (qbk _ _ _) (qb0 [_]) (by simp [maxLen];omega) (by omega) (hE.trans (qaa _ _)).size ?_;intro A2 c2' w2 ho2 hc2' hm2 hr2' hE2 hg2;have hEn:=hE2 w0 (hE.trans (qaa _ _)) (Nat.le_refl _);clear hE2 hg2 hr2')
     refine ⟨⟨i + 3,q + 1,ds ++ [256 * b1 + b0],by go_num,by rw [List.map_append];exact ho2,hEn,HT,by omega,by omega⟩,by simp [intOf];omega⟩
    ·rw [lb_ge (l:=l) (j:=i + 1) (by rw [HN.out];omega)] at HS
     generalize (lb l i).toNat = b0 at *
     replace HS : d3 (lb l) i = b0:=by rw [HS];simp
     have HT : Hid (OfInv (lb l) (ds ++ [b0]) (i + 3)):=Lib.hid (HS ▸ HP.out.step)
     clear HS
     go_wp2
     refine wp_loop_rounds 4 ?_
     rw [rounds_succ]
     go_wp2
     rw [rounds_succ]
     go_wp2
     rw [rounds_succ]
     go_wp2
     rw [rounds_succ]
     go_wp2_with (at_builtin;refine qbn rfl (.tmp 34) (.tmp 36) 53 3 8 rfl qe8 w0.heap.size _ q _ rfl (qbc ho (qaa _ _)) _ 1 1 [iv (b0)] rfl rfl (qbk _ _ _) (qb0 [_]) (by simp [maxLen];omega) (by omega) (hE.trans (qaa _ _)).size ?_;intro A2 c2' w2 ho2 hc2' hm2 hr2' hE2 hg2;have hEn:=hE2 w0 (hE.trans (qaa _ _)) (Nat.le_refl _);clear hE2 hg2 hr2')
     refine ⟨⟨i + 3,q + 1,ds ++ [b0],by go_num,by rw [List.map_append];exact ho2,hEn,HT,by omega,by omega⟩,by simp [intOf];omega⟩
  ·have HV : Hid (dval ds = bsum (lb l) n):=Lib.hid (by
    rw [HP.out.val,show i = n + (i - n) from by omega]
    exact qla _ fun j hj=>lb_ge (by rw [HN.out];exact hj))
   have HQ : Hid (ds.length = q):=Lib.hid (by have:=HP.out.len;omega)
   go_wp2_with (go_at_call 62;with_reducible refine (qf7 C q cc ds _ HQ.out HP.out.small hrd (by omega) hnc).mono ?_;rintro e w' ⟨r,rfl,hri,hrv,hrc,rfl⟩)
   go_ret
   exact ⟨_,rfl,Num.mk (by rw [List.length_take,HQ.out,Nat.min_eq_left hri]) (by omega) (by rw [List.map_take];exact hrd.take r) hrc (by rw [hrv,HV.out]) (by omega),hE⟩
end Go.Proofs.YtgeihelkkhjjaaaGreatDoor
end
section
namespace Go.Cv.Dig
open Go.RowKit
theorem qky (l : List Nat) : ∃ c : Array Value,c = (l.map iv).toArray:=⟨_,rfl⟩
noncomputable def qar (l : List Nat) : Array Value:=Classical.choose (qky l)
theorem qdn (l : List Nat) : qar l = (l.map iv).toArray:=Classical.choose_spec (qky l)
@[simp,go_sem] theorem qcp (l : List Nat) : (qar l).size = l.length:=by rw [qdn];simp
theorem qb2 (l : List Nat) {i : Nat} (h : i < l.length) : (qar l)[i]? = some (iv (dg l i)):=by
 rw [qdn,qdw h]
 simp [h]
theorem qbt (l : List Nat) (i v : Nat) : (qar l).setIfInBounds i (iv v) = qar (l.set i v):=by
 rw [qdn,qdn]
 simp [List.map_set]
theorem qh4 (w : World) (l : List Nat) (T : TypeId) : Rd (w.alloc (.cells (qar l) T)) (some ⟨w.heap.size,0,none⟩) (l.map iv):=Rd.of_cells fun j u hu=>by
 rw [show (Addr.add ⟨w.heap.size,0,none⟩ j) = ⟨w.heap.size,j,none⟩ from by unfold Addr.add;split <;> simp_all]
 rw [World.cell?_alloc_at _ _ _ _ rfl,qdn]
 simpa using hu
theorem qk4 {l : List Nat} {i j v : Nat} (h : i < l.length) : dg (l.set i v) j = if j = i then v else dg l j:=by
 unfold dg
 rw [List.getD_eq_getElem?_getD,List.getElem?_set]
 by_cases hij : i = j
 ·subst hij
  simp [h]
 ·have : ¬ j = i:=fun e=>hij e.symm
  simp [hij,this,List.getD_eq_getElem?_getD]
theorem qa4.set {l : List Nat} (h : qa4 l) {v : Nat} (i : Nat) (hv : v < 16777216) : qa4 (l.set i v):=fun d hd=>by
 rcases List.mem_or_eq_of_mem_set hd with h1 | h1
 ·exact h d h1
 ·rw [h1];exact hv
def hd (l : List Nat) (i : Nat) : Nat:=dg l i / 2 + dg l (i + 1) % 2 * 8388608
theorem hd_lt {l : List Nat} (h : qa4 l) (i : Nat) : hd l i < 16777216:=by
 have:=h.dg i
 unfold hd
 omega
theorem qni {l hs : List Nat} (h : ∀ j,j < l.length→dg hs j = hd l j) : ∀ i,i ≤ l.length→2 * lo hs i + dg l 0 % 2 = lo l i + 16777216 ^ i * (dg l i % 2)
 | 0,_=>by simp [qcy]
 | i + 1,hi=>by
  have ih:=qni h i (by omega)
  rw [qb5,qb5,h i (by omega),Nat.pow_succ]
  unfold hd
  have e : 16777216 ^ i * dg l i = 16777216 ^ i * (dg l i % 2) + 2 * (16777216 ^ i * (dg l i / 2)):=by
   rw [Nat.mul_left_comm,← Nat.mul_add]
   congr 1
   omega
  rw [Nat.mul_add (16777216 ^ i) (dg l i / 2),← Nat.mul_assoc (16777216 ^ i) _ 8388608]
  have e2 : 16777216 ^ i * (dg l (i + 1) % 2) * 8388608 * 2 = 16777216 ^ i * 16777216 * (dg l (i + 1) % 2):=by
   rw [Nat.mul_assoc,Nat.mul_right_comm]
  omega
theorem qq2 {l hs : List Nat} (hl : hs.length = l.length) (h : ∀ j,j < l.length→dg hs j = hd l j) : dval hs = dval l / 2∧dval l % 2 = dg l 0 % 2:=by
 have h1:=qni h l.length (Nat.le_refl _)
 rw [qdy (Nat.le_refl _),qdy (by omega),qhi (Nat.le_refl _)] at h1
 omega
end Go.Cv.Dig
namespace Go.Proofs.YtgeihelkkhjjaaaGreatDoor
open Go.RowKit Go.Cv Go.Cv.Dig

theorem qoo (A : Option Addr) (n cap : Nat) (l : List Nat) (i : Nat) (w : World) (hn : l.length = n) (hr : Rd w A (l.map iv)) (hm : n ≤ 140737488355328) (hi : i + 1 < 4611686018427387904) :
  Calls Tryz.prog 79 #[.slice A n cap,.int .i64 ((i : Int) + 1)] w fun e w'=>e = .returned (iv (dg l (i + 1)))∧w' = w:=qbr A n cap l (i + 1) w hn hr hm hi
theorem qi4 (A : Option Addr) (n cap : Nat) (l : List Nat) (w : World) (hn : l.length = n) (hr : Rd w A (l.map iv)) (hm : n ≤ 140737488355328) :
  Calls Tryz.prog 79 #[.slice A n cap,.int .i64 0] w fun e w'=>e = .returned (iv (dg l 0))∧w' = w:=qbr A n cap l 0 w hn hr hm (by decide)
theorem ql5 (n : Nat) : madeCells (Value.cells (.int .i64 0)) n = qar (List.replicate n 0):=by
 rw [qdn]
 apply Array.ext_getElem?
 intro j
 by_cases hj : j < n
 ·simp [madeCells,Value.cells,hj,Nat.mod_one]
 ·rw [Array.getElem?_eq_none (by rw [size_madeCells];omega),Array.getElem?_eq_none (by simp;omega)]
@[go_sem] theorem qju (n : Nat) (w : World) (hn : n ≤ 1000000) : (Instr.makeSlice 53 (.int .i64 (n : Int)) (.int .i64 (n : Int))).run Tryz.prog w =
  .ok (.slice (some ⟨w.heap.size,0,none⟩) n n) (w.alloc (.cells (qar (List.replicate n 0)) 3)):=by
 obtain ⟨i,h1,h2,h3,h4⟩:=info_parts (show (Tryz.prog.info? 3).map (fun i=>(i.zero,i.size,i.bytes)) = some (some (.int .i64 0),1,8) from by kernel_rfl)
 have h:=run_makeSlice (P:=Tryz.prog) w 53 3 i (.int .i64 0) Tryz.underlying53 h1 h2 .i64 .i64 n n (by omega) (by omega) (by rw [h3];omega) (by rw [h4];omega) (by omega)
 rw [h,h3,Int.toNat_natCast,Nat.mul_one]
 rw [ql5]

theorem qnj (A : Option Addr) (n c1 : Nat) (l : List Nat) (w : World) (hn : l.length = n) (hl : Canon l) (hr : Rd w A (l.map iv)) (hb : n ≤ 1000000) :
  Calls Tryz.prog 105 #[.slice A n c1] w fun e w'=>∃ v,e = .returned (.tuple #[v,.bool (dval l % 2 == 1)])∧Num w' v (dval l / 2) n∧Ext w w':=by
 have HN:=Lib.hid hn
 have HL:=Lib.hid hl
 clear hl hn
 go_enter Tryz.func105,Tryz.ntmps105
 go_wp2
 go_loopw [5] (fun t wr=>∃ (i : Nat) (hs : List Nat) (x : Nat × Array Obj),i ≤ n∧t = .int .i64 i∧wr = grw (w.alloc (.cells (qar hs) 3)) x∧hs.length = n∧qa4 hs∧∀ j,j < i→dg hs j = hd l j) (fun t _=>n - (intOf t).toNat)
 case atStart=>exact ⟨0,List.replicate n 0,_,Nat.zero_le _,rfl,qd1 _,by simp,fun d hd=>by rw [List.eq_of_mem_replicate hd];decide,fun _ h=>absurd h (by omega)⟩
 case round =>
  obtain ⟨i,hs,x,hi,rfl,rfl,hlen,hsm,hdg⟩:=hrel
  have HSM:=Lib.hid hsm
  have HDG:=Lib.hid hdg
  have HLEN:=Lib.hid hlen
  have hsz : (qar hs).size = n:=by rw [qcp,hlen]
  clear hsm hdg hlen
  by_cases hlt : i < n
  ·have h1:=HL.out.1.dg i
   have h2:=HL.out.1.dg (i + 1)
   have hg : (qar hs)[i]? = some (iv (dg hs i)):=qb2 hs (by rw [HLEN.out];exact hlt)
   obtain ⟨ad,rfl,hcell⟩:=hr.at_ (k:=i) (by rw [List.length_map,HN.out];exact hlt)
   rw [List.getElem_map,← qdw] at hcell
   have hall : ∀ z : Nat,(grw (w.alloc (.cells (qar hs) 3)) (z,x.2)).cell? (ad.add i) = some (iv (dg l i)):=fun z=>Ext.cell ((qaa _ _).trans (qad _ _)) hcell
   have w1 : IntKind.i64.wrap ((i : Int) + 1) = (i : Int) + 1:=IntWalk.i64_in _ (by omega)
   have w2 : IntKind.i64.wrap ((dg l i : Int) / 2) = (dg l i : Int) / 2:=IntWalk.i64_in _ (by omega)
   obtain ⟨e,he⟩ : ∃ e,e = dg l (i + 1) % 2:=⟨_,rfl⟩
   have hel : e < 2:=by omega
   have w3 : (dg l (i + 1) : Int).tmod 2 = (e : Int):=by rw [he];rfl
   have HHD : Hid (hd l i = dg l i / 2 + e * 8388608):=Lib.hid (by rw [he];rfl)
   clear he
   have w4 : IntKind.i64.wrap ((e : Int) * 8388608) = (e : Int) * 8388608:=IntWalk.i64_in _ (by omega)
   have w5 : IntKind.i64.wrap ((dg l i : Int) / 2 + (e : Int) * 8388608) = (dg l i : Int) / 2 + (e : Int) * 8388608:=IntWalk.i64_in _ (by omega)
   go_wp2
   go_region_with (go_at_call 79;with_reducible refine (qoo (some ad) n c1 l i _ HN.out (hr.ext ((qaa _ _).trans (qad _ _))) (by omega) (by omega)).mono ?_;rintro e w' ⟨rfl,rfl⟩)
   all_goals
    go_wp2
    refine ⟨⟨i + 1,hs.set i (hd l i),_,by omega,by go_num,by rw [← qbt,HHD.out];rfl,by rw [List.length_set,HLEN.out],HSM.out.set _ (hd_lt HL.out.1 i),fun j hj=>?_⟩,by simp [intOf];omega⟩
    rw [qk4 (by rw [HLEN.out];exact hlt)]
    split
    ·rename_i hji;rw [hji]
    ·exact HDG.out j (by omega)
  ·have hin : i = n:=by omega
   subst hin
   have HV:=Lib.hid (qq2 (hs:=hs) (l:=l) (by rw [HLEN.out,HN.out]) (by rw [HN.out];exact HDG.out))
   have hd0:=HL.out.1.dg 0
   obtain ⟨e,he⟩ : ∃ e,e = dg l 0 % 2:=⟨_,rfl⟩
   have w1 : (dg l 0 : Int).tmod 2 = (e : Int):=by rw [he];rfl
   replace he:=Lib.hid he
   have hrd : Rd (grw (w.alloc (.cells (qar hs) 3)) x) (some ⟨w.heap.size,0,none⟩) (hs.map iv):=(qh4 w hs _).ext (qad _ _)
   go_wp2_with (first
    | (go_at_call 62;with_reducible refine (qf7 _ i i hs _ HLEN.out HSM.out hrd (by omega) (Nat.le_refl _)).mono ?_;rintro e w' ⟨r,rfl,hri,hrv,hrc,rfl⟩)
    | (go_at_call 79;with_reducible refine (qi4 A i c1 l _ HN.out (hr.ext ((qaa _ _).trans (qad _ _))) (by omega)).mono ?_;rintro e w' ⟨rfl,rfl⟩))
   go_ret2
   have he2 : ((e : Int) == 1) = (dval l % 2 == 1):=by
    rw [HV.out.2,← he.out,Bool.eq_iff_iff,beq_iff_eq,beq_iff_eq]
    omega
   refine ⟨_,by rw [← he2];rfl,Num.mk (by rw [List.length_take,HLEN.out,Nat.min_eq_left hri]) hri (by rw [List.map_take];exact hrd.take r) hrc (by rw [hrv,HV.out.1]) hri,(qaa _ _).trans (qad _ _)⟩
end Go.Proofs.YtgeihelkkhjjaaaGreatDoor
end
section
namespace Go.Cv.Dig
open Go.RowKit
structure NineInv (l os : List Nat) (i : Nat) : Prop where
 len : os.length = l.length + 1
 small : qa4 os
 val : dval os = 19 * lo l i
 zero : ∀ j,i < j→dg os j = 0
theorem qfy (n : Nat) : dval (List.replicate n 0) = 0:=qfk fun d hd=>List.eq_of_mem_replicate hd
theorem NineInv.start (l : List Nat) : NineInv l (List.replicate (l.length + 1) 0) 0:=by
 refine ⟨by simp,fun d hd=>by rw [List.eq_of_mem_replicate hd];decide,by rw [qfy,qcy],fun j _=>?_⟩
 unfold dg
 rw [List.getD_eq_getElem?_getD,List.getElem?_replicate]
 split <;> rfl
theorem NineInv.step {l os : List Nat} {i : Nat} (hl : qa4 l) (hi : i < l.length) (h : NineInv l os i) :
  NineInv l ((os.set i ((dg os i + dg l i * 19) % 16777216)).set (i + 1) ((dg os i + dg l i * 19) / 16777216)) (i + 1):=by
 have h1:=hl.dg i
 have h2:=h.small.dg i
 have hlen:=h.len
 have ha : dval (os.set i ((dg os i + dg l i * 19) % 16777216)) + 16777216 ^ i * dg os i = dval os + 16777216 ^ i * ((dg os i + dg l i * 19) % 16777216):=qcj (by omega) _
 have hz : dg (os.set i ((dg os i + dg l i * 19) % 16777216)) (i + 1) = 0:=by
  rw [qk4 (by omega),if_neg (by omega)]
  exact h.zero _ (by omega)
 have hb:=qcj (l:=os.set i ((dg os i + dg l i * 19) % 16777216)) (i:=i + 1) (by rw [List.length_set];omega) ((dg os i + dg l i * 19) / 16777216)
 rw [hz,Nat.mul_zero,Nat.add_zero] at hb
 refine ⟨by rw [List.length_set,List.length_set,hlen],(h.small.set _ (Nat.mod_lt _ (by decide))).set _ (by omega),?_,fun j hj=>?_⟩
 ·rw [hb,qb5,Nat.mul_add,← h.val,Nat.pow_succ]
  have e:=Nat.mod_add_div (dg os i + dg l i * 19) 16777216
  have e2 : 16777216 ^ i * ((dg os i + dg l i * 19) % 16777216 + 16777216 * ((dg os i + dg l i * 19) / 16777216)) = 16777216 ^ i * (dg os i + dg l i * 19):=by rw [e]
  rw [Nat.mul_add,← Nat.mul_assoc,Nat.mul_add] at e2
  have e3 : 19 * (16777216 ^ i * dg l i) = 16777216 ^ i * (dg l i * 19):=by rw [Nat.mul_left_comm,Nat.mul_comm 19]
  omega
 ·rw [qk4 (by rw [List.length_set];omega),if_neg (by omega),qk4 (by omega),if_neg (by omega)]
  exact h.zero _ (by omega)
end Go.Cv.Dig
namespace Go.Proofs.YtgeihelkkhjjaaaGreatDoor
open Go.RowKit Go.Cv Go.Cv.Dig
@[go_sem] theorem make_int1 (n : Nat) (w : World) (hn : n ≤ 999999) : (Instr.makeSlice 53 (.int .i64 ((n : Int) + 1)) (.int .i64 ((n : Int) + 1))).run Tryz.prog w =
  .ok (.slice (some ⟨w.heap.size,0,none⟩) (n + 1) (n + 1)) (w.alloc (.cells (qar (List.replicate (n + 1) 0)) 3)):=qju (n + 1) w (by omega)

theorem nine_any (A : Option Addr) (bd : Addr) (n c1 c2 : Nat) (l : List Nat) (w : World) (hn : l.length = n) (hl : Canon l) (hr : Rd w A (l.map iv)) (hr2 : w.cell? bd = some (iv 19)) (hb : n ≤ 999999) :
  Calls Tryz.prog 54 #[.slice A n c1,.slice (some bd) 1 c2] w fun e w'=>∃ v,e = .returned v∧Num w' v (19 * dval l) (n + 1)∧Ext w w':=by
 have HN:=Lib.hid hn
 have HL:=Lib.hid hl
 clear hl hn
 go_enter Tryz.func54,Tryz.ntmps54
 go_wp2
 go_loopw [6,7,8,9] (fun t _ _ _ wr=>∃ (i : Nat) (os : List Nat) (x : Nat × Array Obj),i ≤ n∧t = .int .i64 i∧wr = grw (w.alloc (.cells (qar os) 3)) x∧Hid (NineInv l os i)) (fun t _ _ _ _=>n - (intOf t).toNat)
 case atStart=>exact ⟨0,List.replicate (n + 1) 0,_,Nat.zero_le _,rfl,qd1 _,Lib.hid (HN.out ▸ NineInv.start l)⟩
 case round =>
  obtain ⟨i,os,x,hi,rfl,rfl,HP⟩:=hrel
  have hlen : (qar os).size = n + 1:=by rw [qcp,HP.out.len,HN.out]
  by_cases hlt : i < n
  ·have h1:=HL.out.1.dg i
   have h2:=HP.out.small.dg i
   have hg : (qar os)[i]? = some (iv (dg os i)):=qb2 os (by rw [HP.out.len,HN.out];omega)
   have hg2 : ∀ h : i < (qar os).size,(qar os)[i]'h = iv (dg os i):=fun h=>by rw [Array.getElem?_eq_getElem h] at hg;exact Option.some.inj hg
   have HS:=Lib.hid (HP.out.step HL.out.1 (by rw [HN.out];exact hlt))
   obtain ⟨ad,rfl,hcell⟩:=hr.at_ (k:=i) (by rw [List.length_map,HN.out];exact hlt)
   rw [List.getElem_map,← qdw] at hcell
   have hall : ∀ z : Nat,(grw (w.alloc (.cells (qar os) 3)) (z,x.2)).cell? (ad.add i) = some (iv (dg l i)):=fun z=>Ext.cell ((qaa _ _).trans (qad _ _)) hcell
   have hbll : ∀ z : Nat,(grw (w.alloc (.cells (qar os) 3)) (z,x.2)).cell? bd = some (iv 19):=fun z=>Ext.cell ((qaa _ _).trans (qad _ _)) hr2
   have w1 : IntKind.i64.wrap ((dg l i : Int) * 19) = (dg l i : Int) * 19:=IntWalk.i64_in _ (by omega)
   have w2 : IntKind.i64.wrap ((dg os i : Int) + (dg l i : Int) * 19) = (dg os i : Int) + (dg l i : Int) * 19:=IntWalk.i64_in _ (by omega)
   go_wp2
   refine wp_loop_rounds 2 ?_
   rw [rounds_succ]
   go_wp2
   go_region
   all_goals
    go_wp2
    rw [rounds_succ]
    go_wp2
    refine ⟨⟨i + 1,(os.set i ((dg os i + dg l i * 19) % 16777216)).set (i + 1) ((dg os i + dg l i * 19) / 16777216),_,by omega,by go_num,by rw [← qbt,← qbt];rfl,HS⟩,by simp [intOf];omega⟩
  ·have hin : i = n:=by omega
   subst hin
   have HV : Hid (dval os = 19 * dval l):=Lib.hid (by rw [HP.out.val,qdy (Nat.le_of_eq HN.out)])
   have hrd : Rd (grw (w.alloc (.cells (qar os) 3)) x) (some ⟨w.heap.size,0,none⟩) (os.map iv):=(qh4 w os _).ext (qad _ _)
   go_wp2_with (go_at_call 62;with_reducible refine (qf7 _ (i + 1) (i + 1) os _ (by rw [HP.out.len,HN.out]) HP.out.small hrd (by omega) (Nat.le_refl _)).mono ?_;rintro e w' ⟨r,rfl,hri,hrv,hrc,rfl⟩)
   go_ret
   exact ⟨_,rfl,Num.mk (by rw [List.length_take,HP.out.len,HN.out,Nat.min_eq_left hri]) hri (by rw [List.map_take];exact hrd.take r) hrc (by rw [hrv,HV.out]) hri,(qaa _ _).trans (qad _ _)⟩
end Go.Proofs.YtgeihelkkhjjaaaGreatDoor
end
section
namespace Go.Cv
theorem qjw (P : Nat→Prop) (h : ∃ n,P n) : ∃ n,P n∧∀ m,P m→n ≤ m:=by
 obtain ⟨n,hn⟩:=h
 induction n using Nat.strongRecOn with
 | ind n ih =>
  by_cases h2 : ∃ m,m < n∧P m
  ·obtain ⟨m,hm,hp⟩:=h2
   exact ih m hm hp
  ·exact ⟨n,hn,fun m hm=>Nat.le_of_not_lt fun hl=>h2 ⟨m,hl,hm⟩⟩
open Classical in
noncomputable def qeg (P : Nat→Prop) : Nat:=if h : ∃ n,P n then Classical.choose (qjw P h) else 0
theorem qf3 {P : Nat→Prop} (h : ∃ n,P n) : P (qeg P):=by
 unfold qeg;rw [dif_pos h];exact (Classical.choose_spec (qjw P h)).1
theorem qku {P : Nat→Prop} {m k : Nat} (h : P m) (hk : m < k) : qeg P < k:=by
 have e : ∃ n,P n:=⟨m,h⟩
 unfold qeg;rw [dif_pos e];exact Nat.lt_of_le_of_lt ((Classical.choose_spec (qjw P e)).2 m h) hk
end Go.Cv
namespace Go.Cv.Dig
open Go.RowKit
theorem qkr {m : List Nat} (hc : Canon m) (hl : m.length = 11) :
  ∃ y,dval (m.take 10 ++ [dg m 10 % 32768]) = y∧y < 2 ^ 255∧dval m = y + 2 ^ 255 * (dg m 10 / 32768):=by
 have h10:=hc.1.dg 10
 have h1:=qoi m (i:=10) (by omega)
 have h2 : hi m 10 = dg m 10:=by
  rw [qg1 (by omega)]
  unfold hi
  rw [List.drop_of_length_le (by omega)]
  simp [dval]
 have h3:=qqs hc.1 10
 refine ⟨_,rfl,?_⟩
 have h4 : dval (m.take 10 ++ [dg m 10 % 32768]) = lo m 10 + 16777216 ^ 10 * (dg m 10 % 32768):=by
  rw [qdv,List.length_take,hl];rfl
 rw [h4,h1,h2]
 have h5:=Nat.mod_lt (dg m 10) (show 0 < 32768 by decide)
 have h6:=Nat.mod_add_div (dg m 10) 32768
 generalize dg m 10 % 32768 = r at *
 generalize dg m 10 / 32768 = q at *
 rw [← h6]
 rw [← h6] at h10
 omega
theorem mod_step {x y h N : Nat} (e : x = y + 2 ^ 255 * h) (hh : 0 < h) (hb : h < 512) (hy : y < 2 ^ 255) (hm : x % (2 ^ 255 - 19) = N) :
  (y + 19 * h) % (2 ^ 255 - 19) = N∧y + 19 * h < x∧y + 19 * h < 16777216 ^ 11:=by
 refine ⟨?_,by omega,by omega⟩
 rw [← hm,e]
 have e2 : y + 2 ^ 255 * h = y + 19 * h + (2 ^ 255 - 19) * h:=by omega
 rw [e2,Nat.add_mul_mod_self_left]
theorem qpf {m : List Nat} (hc : Canon m) : qa4 (m.take 10 ++ [dg m 10 % 32768]):=(hc.1.take 10).snoc (by omega)
theorem low_map (m : List Nat) (d : Nat) : (m.take 10).map iv ++ [iv d] = (m.take 10 ++ [d]).map iv:=by simp
theorem qk3 {m : List Nat} (hc : Canon m) (h : m.length < 11 ∨ m.length = 11∧dg m 10 < 32768) : dval m < 2 ^ 255:=by
 rcases h with h | ⟨h,h2⟩
 ·have:=qp2 hc (.inl h);omega
 ·obtain ⟨y,h3,h4,h5⟩:=qkr hc h
  rw [Nat.div_eq_of_lt h2] at h5
  omega
theorem Canon.of_snoc {d : Nat} (h : d < 16777216) : qa4 [d]:=fun x hx=>by rw [List.mem_singleton.1 hx];exact h
theorem qnn (d : Nat) : dval [d] = d:=by simp [dval]
end Go.Cv.Dig
namespace Go.Proofs.YtgeihelkkhjjaaaGreatDoor
open Go.RowKit Go.Cv Go.Cv.Dig
theorem Num.parts {w : World} {v : Value} {x N : Nat} (h : Num w v x N) : ∃ A n c l,v = .slice A n c∧l.length = n∧n ≤ c∧Rd w A (l.map iv)∧Canon l∧dval l = x∧n ≤ N:=h
theorem Num.short {w : World} {v : Value} {x N M : Nat} (h : Num w v x N) (hx : x < 16777216 ^ M) : Num w v x M:=by
 obtain ⟨A,n,c,l,rfl,hn,hc,hr,hl,rfl,hN⟩:=h
 exact Num.mk hn hc hr hl rfl (by rw [← hn];exact hl.len_le hx)
theorem qk7 (w : World) (v : Value) (t : TypeId) : (w.alloc (.cells #[v] t)).cell? ⟨w.heap.size,0,none⟩ = some v:=by
 obtain ⟨ad,h1,h2⟩:=(qbk w v t).at_ (k:=0) (by simp)
 cases h1
 exact h2
theorem take_one (q : Nat) {r : Nat} (h : r ≤ 1) : ([q].take r).length = r:=by
 rw [List.length_take];exact Nat.min_eq_left h
theorem cell_19 (w : World) (t : TypeId) : (w.alloc (.cells #[.int .i64 19] t)).cell? ⟨w.heap.size,0,none⟩ = some (iv 19):=qk7 w _ t
theorem qop (A : Option Addr) (cap : Nat) (l : List Nat) (w : World) (hn : l.length = 11) (hr : Rd w A (l.map iv)) :
  Calls Tryz.prog 79 #[.slice A 11 cap,.int .i64 11] w fun e w'=>e = .returned (.int .i64 0)∧w' = w:=by
 refine (qbr A 11 cap l 11 w hn hr (by decide) (by decide)).mono ?_
 rintro e w' ⟨rfl,rfl⟩
 rw [qhi (by omega)]
 exact ⟨rfl,rfl⟩

theorem mod_any (w : World) (v0 : Value) (x0 : Nat) (h0 : Num w v0 x0 11) :
  Calls Tryz.prog 95 #[v0] w fun e w'=>∃ v,e = .returned v∧Num w' v (x0 % (2 ^ 255 - 19)) 11∧Ext w w':=by
 obtain ⟨A0,n0,cap0,l0,rfl,h0⟩:=h0
 replace h0 : Hid (Num w (.slice A0 n0 cap0) x0 11):=Lib.hid ⟨A0,n0,cap0,l0,rfl,h0⟩
 obtain ⟨N,hN⟩ : ∃ N,N = x0 % (2 ^ 255 - 19):=⟨_,rfl⟩
 rw [← hN]
 replace hN:=Lib.hid hN
 go_enter Tryz.func95,Tryz.ntmps95
 go_wp2
 obtain ⟨R,hR⟩ : ∃ R : World→Value→Nat→Prop,R = fun wr v x=>Num wr v x 11∧Ext w wr∧Hid (x % (2 ^ 255 - 19) = N):=⟨_,rfl⟩
 replace hR:=Lib.hid hR
 go_loopw [0] (fun v wr=>∃ x,R wr v x) (fun v wr=>qeg (R wr v))
 case atStart=>exact ⟨x0,by rw [hR.out];exact ⟨h0.out,Ext.refl _,Lib.hid hN.out.symm⟩⟩
 case round =>
  have hsp:=qf3 hrel
  clear hrel
  obtain ⟨x,hx⟩ : ∃ x,x = qeg (R wr u0):=⟨_,rfl⟩
  rw [← hx,hR.out] at hsp
  replace hx:=Lib.hid hx
  obtain ⟨hnum,hE,HX⟩:=hsp
  obtain ⟨A,n,c,m,rfl,hn,hc,hr,hcan,hval,hle⟩:=hnum
  have HN:=Lib.hid hn
  have HC:=Lib.hid hcan
  have HV:=Lib.hid hval
  clear hn hcan hval
  by_cases h11 : n < 11
  ·have HB:=Lib.hid (qk3 HC.out (.inl (by rw [HN.out];exact h11)))
   go_wp2_with (go_at_call 106;with_reducible refine (qil A n c m _ HN.out HC.out HB.out hr hle hc).mono ?_;rintro e w' ⟨v,rfl,hv,hx'⟩)
   go_ret
   exact ⟨_,rfl,by rw [HV.out,HX.out] at hv;exact hv,hE.trans hx'⟩
  ·obtain rfl : n = 11:=by omega
   obtain ⟨ad,rfl,hcell⟩:=hr.at_ (k:=10) (by rw [List.length_map,HN.out];decide)
   have hd10:=qdw (l:=m) (i:=10) (by rw [HN.out];decide)
   rw [List.getElem_map,← hd10] at hcell
   clear hd10
   replace hcell : wr.cell? ⟨ad.block,ad.off + 10,none⟩ = some (iv (dg m 10)):=by
    have e : ad.add 10 = ⟨ad.block,ad.off + 10,none⟩:=by unfold Addr.add;rfl
    rw [← e];exact hcell
   by_cases hd : dg m 10 < 32768
   ·have HB:=Lib.hid (qk3 HC.out (.inr ⟨HN.out,hd⟩))
    have hd' : decide ((32768 : Int) ≤ (dg m 10 : Int)) = false:=decide_eq_false (by omega)
    go_wp2_with (go_at_call 106;with_reducible refine (qil (some ad) 11 c m _ HN.out HC.out HB.out hr hle hc).mono ?_;rintro e w' ⟨v,rfl,hv,hx'⟩)
    go_ret
    exact ⟨_,rfl,by rw [HV.out,HX.out] at hv;exact hv,hE.trans hx'⟩
   ·have hd' : decide ((32768 : Int) ≤ (dg m 10 : Int)) = true:=decide_eq_true (by omega)
    have hds:=HC.out.1.dg 10
    obtain ⟨y,hy,hyb,hys⟩:=qkr HC.out HN.out
    have HY:=Lib.hid hy
    have HS:=Lib.hid (mod_step (N:=N) hys (by omega) (by omega) hyb (by rw [HV.out,HX.out]))
    clear hy hyb hys
    obtain ⟨r,hrr⟩ : ∃ r,r = dg m 10 % 32768:=⟨_,rfl⟩
    have t1 : (dg m 10 : Int).tmod 32768 = (r : Int):=by rw [hrr];rfl
    obtain ⟨q,hq⟩ : ∃ q,q = dg m 10 / 32768:=⟨_,rfl⟩
    have t2 : IntKind.i64.wrap ((dg m 10 : Int) / 32768) = (q : Int):=by rw [IntWalk.i64_in _ (by omega),hq];rfl
    have hq1 : q < 512:=by omega
    rw [← hrr] at HY
    rw [← hq] at HS
    have HSM : Hid (qa4 (m.take 10 ++ [r])):=Lib.hid (hrr ▸ qpf HC.out)
    clear hrr hq
    have HL10 : Hid (((m.take 10).map iv).length = 10):=Lib.hid (by rw [List.length_map,List.length_take,HN.out];rfl)
    go_wp2_with (first
     | (at_builtin;refine qeo rfl (.tmp 20) (.tmp 22) 53 3 8 rfl qe8 rfl _ 10 _ ((m.take 10).map iv) rfl HL10.out (by rw [List.map_take];exact hr.take 10) (qb0 _) (by simp [maxLen]) (by omega) ?_;intro A1 c1 w1 ho1 hc1 hm1 hr1 hx1;have hcell1:=Ext.cell hx1 hcell)
     | (at_builtin;refine qbn rfl (.tmp 24) (.tmp 29) 53 3 8 rfl qe8 wr.heap.size _ 10 _ rfl (qbc ho1 (qaa _ _)) _ 1 1 [iv r] rfl rfl (qbk _ _ _) (qb0 [_]) (by simp [maxLen]) (by omega) (hx1.trans (qaa _ _)).size ?_;intro A2 c2 w2 ho2 hc2 hm2 hr2 hE2 hg2;have hx2:=hE2 wr (hx1.trans (qaa _ _)) (Nat.le_refl _);clear hE2 hg2))
    rw [low_map] at hr2
    have hcell2:=Ext.cell hx2 hcell
    have HQ1 : Hid (qa4 [q]):=Lib.hid (Canon.of_snoc (by omega))
    have HLL : Hid ((m.take 10 ++ [r]).length = 11):=Lib.hid (by rw [List.length_append,List.length_take,HN.out];rfl)
    have hdig:=(qop (some ad) c m w2.drew HN.out ((hr.ext hx2).drew))
    have w11 : IntKind.i64.wrap 11 = 11:=by decide
    have w00 : IntKind.i64.wrap 0 = 0:=by decide
    have wqq : IntKind.i64.wrap (q : Int) = (q : Int):=IntWalk.i64_in _ (by omega)
    clear hcell hcell1 hr1
    refine wp_loop_rounds 2 ?_
    rw [rounds_succ]
    go_wp2
    go_region_law (first
     | (go_simp;go_at_call 79;(with_reducible refine Calls.mono hdig ?_);rintro e w' ⟨rfl,rfl⟩)
     | (refine step_app rfl (.tmp 37) (.tmp 50) 53 3 8 rfl qe8 w2.heap.size (.slice none 0 0) 0 [] rfl (World.ownsRow_nil _ _ _ 1) _ 1 1 [iv q] rfl rfl (qbk _ _ _).drew (qb0 [_]) (by simp [maxLen]) (by omega) (by simp) ?_;intro A3 c3 w3 ho3 hc3 hm3 hr3 hE3 hg3))
    all_goals
     have hx3 : Ext w2 w3:=hE3 w2 ((qaa _ _).trans (qae _)) (Nat.le_refl _)
     have hcell3:=Ext.cell hx3 hcell2
     have hlow:=hr2.ext hx3
     replace hr3 : Rd w3 A3 ([q].map iv):=hr3
     have htk : ∀ r,Rd w3 A3 (([q].take r).map iv):=fun r=>by rw [List.map_take];exact hr3.take r
     have hlk : ∀ r1,Rd w3 A2 (((m.take 10 ++ [r]).take r1).map iv):=fun r1=>by rw [List.map_take];exact hlow.take r1
     clear hE3 hg3 hcell2
     go_wp2
     rw [rounds_succ]
     go_wp2_with (first
      | (go_at_call 62;with_reducible refine (qf7 A2 11 c2 (m.take 10 ++ [r]) _ HLL.out HSM.out hlow (by decide) hc2).mono ?_;rintro e w' ⟨r1,rfl,hr11,hrv1,hrc1,rfl⟩)
      | (go_at_call 62;with_reducible refine (qf7 A3 1 c3 [q] _ rfl HQ1.out hr3 (by decide) hc3).mono ?_;rintro e w' ⟨r2,rfl,hr22,hrv2,hrc2,rfl⟩)
      | (go_at_call 54;with_reducible refine (nine_any A3 _ r2 c3 1 ([q].take r2) _ (take_one q hr22) hrc2 ((htk r2).ext (qaa _ _)) (cell_19 _ _) (by omega)).mono ?_;rintro e w4 ⟨v4,rfl,hnum4,hx4⟩;obtain ⟨B,nb,cb,lb,rfl,hnb,hcb,hrb,hcanb,hvb,hleb⟩:=Num.parts hnum4)
      | (go_at_call 55;with_reducible refine (qm6 A2 B r1 nb c2 cb ((m.take 10 ++ [r]).take r1) lb _ (by rw [List.length_take,HLL.out,Nat.min_eq_left hr11]) hnb hrc1 hcanb ((hlk r1).ext ((qaa _ _).trans hx4)) hrb (by omega) (by omega)).mono ?_;rintro e w5 ⟨v5,rfl,hnum5,hx5⟩))
     rw [hvb,hrv1,hrv2,HY.out,qnn] at hnum5
     have hfin : R w5 v5 (y + 19 * q):=by
      rw [hR.out]
      exact ⟨hnum5.short HS.out.2.2,hE.trans (hx2.trans (hx3.trans ((qaa _ _).trans (hx4.trans hx5)))),Lib.hid HS.out.1⟩
     refine ⟨⟨_,hfin⟩,?_⟩
     have hl:=qku hfin (k:=x) (by rw [← HV.out];exact HS.out.2.1)
     rw [hx.out] at hl
     exact hl
end Go.Proofs.YtgeihelkkhjjaaaGreatDoor
end
end
