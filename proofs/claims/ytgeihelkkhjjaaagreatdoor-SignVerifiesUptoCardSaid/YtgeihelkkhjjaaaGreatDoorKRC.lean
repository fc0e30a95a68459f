/-
  Texts of the lemmas below the claim, put together: RC RD RO.
-/
import Derived.Test.YtgeihelkkhjjaaaGreatDoorKRA
import Derived.BigRegion
import Derived.Test.YtgeihelkkhjjaaaGreatDoorKSB
set_option linter.unusedSimpArgs false
set_option linter.unusedVariables false
set_option maxRecDepth 20000
set_option maxHeartbeats 8000000
section
section
namespace Go.Cv.Dig
open Go.RowKit
theorem qby {l : List Nat} {i : Nat} (h : i < l.length) (x j : Nat) : dg (l.set i x) j = if j = i then x else dg l j:=by
 unfold dg
 rw [List.getD_eq_getElem?_getD,List.getD_eq_getElem?_getD,List.getElem?_set]
 by_cases hj : j = i
 ·subst hj;simp [h]
 ·rw [if_neg (fun e=>hj e.symm),if_neg hj]
theorem qi5 {l : List Nat} {i : Nat} (h : i < l.length) : 16777216 ^ i * dg l i ≤ dval l:=by
 rw [qoi l (Nat.le_of_lt h),qg1 h,Nat.mul_add]
 omega
theorem small_of {l : List Nat} (h : ∀ j,dg l j < 16777216) : qa4 l:=fun d hd=>by
 obtain ⟨i,hi,rfl⟩:=List.mem_iff_getElem.1 hd
 rw [← qdw hi];exact h i
structure CarryInv (X : Nat) (os : List Nat) (i : Nat) : Prop where
 len : os.length = 23
 low : ∀ j,j < i→dg os j < 16777216
 at_ : dg os i < 2 ^ 61
 far : ∀ j,i < j→dg os j < 2 ^ 60
 val : dval os = X
theorem CarryInv.start {os : List Nat} (hl : os.length = 23) (h : ∀ j,dg os j < 2 ^ 60) : CarryInv (dval os) os 0 :=
 ⟨hl,fun j hj=>absurd hj (by omega),by have:=h 0;omega,fun j _=>h j,rfl⟩
theorem CarryInv.step {X : Nat} {os : List Nat} {i : Nat} (h : CarryInv X os i) (hi : i < 22) :
  CarryInv X ((os.set (i + 1) (dg os (i + 1) + dg os i / 16777216)).set i (dg os i % 16777216)) (i + 1):=by
 obtain ⟨hl,h1,h2,h3,h4⟩:=h
 have h5:=h3 (i + 1) (by omega)
 have e1:=qcj (l:=os) (i:=i + 1) (by omega) (dg os (i + 1) + dg os i / 16777216)
 have e2:=qcj (l:=os.set (i + 1) (dg os (i + 1) + dg os i / 16777216)) (i:=i) (by rw [List.length_set];omega) (dg os i % 16777216)
 rw [qby (by omega),if_neg (by omega)] at e2
 have e3:=Nat.mod_add_div (dg os i) 16777216
 refine ⟨by simp [hl],fun j hj=>?_,?_,fun j hj=>?_,?_⟩
 ·rw [qby (by rw [List.length_set];omega),qby (by omega)]
  split
  ·omega
  ·rw [if_neg (by omega)];exact h1 j (by omega)
 ·rw [qby (by rw [List.length_set];omega),qby (by omega),if_neg (by omega),if_pos rfl]
  omega
 ·rw [qby (by rw [List.length_set];omega),qby (by omega),if_neg (by omega),if_neg (by omega)]
  exact h3 j (by omega)
 ·rw [← h4]
  rw [Nat.mul_add,Nat.pow_succ,Nat.mul_assoc] at e1
  have e4 : 16777216 ^ i * (dg os i % 16777216 + 16777216 * (dg os i / 16777216)) = 16777216 ^ i * dg os i:=by rw [e3]
  rw [Nat.mul_add] at e4
  rw [Nat.mul_assoc (16777216 ^ i) 16777216 (dg os i / 16777216)] at e1
  omega
theorem CarryInv.done {X : Nat} {os : List Nat} (h : CarryInv X os 22) (hX : X < 16777216 ^ 23) : os.length = 23∧qa4 os∧dval os = X:=by
 refine ⟨h.len,small_of fun j=>?_,h.val⟩
 rcases Nat.lt_trichotomy j 22 with hj | rfl | hj
 ·exact h.low j hj
 ·have h1:=qi5 (l:=os) (i:=22) (by rw [h.len];decide)
  rw [h.val] at h1
  rcases Nat.lt_or_ge (dg os 22) 16777216 with h2 | h2
  ·exact h2
  ·exfalso
   have h3 : 16777216 ^ 22 * 16777216 ≤ 16777216 ^ 22 * dg os 22:=Nat.mul_le_mul_left _ h2
   rw [← Nat.pow_succ] at h3
   omega
 ·rw [qhi (by rw [h.len];omega)];decide
structure qbg (X : Nat) (os : List Nat) (k : Nat) (b : Bool) : Prop where
 len : os.length = 23
 far : ∀ j,k ≤ j→dg os j < 16777216
 all : ∀ j,dg os j < 2 ^ 39
 no : b = false→dval os = X∧qa4 os∧∀ j,11 ≤ j→j < k + 11→dg os j = 0
 yes : b = true→dval os < X∧dval os % (2 ^ 255 - 19) = X % (2 ^ 255 - 19)
theorem qbg.start {X : Nat} {os : List Nat} (hl : os.length = 23) (hs : qa4 os) (hv : dval os = X) : qbg X os 0 false :=
 ⟨hl,fun j _=>hs.dg j,fun j=>by have:=hs.dg j;omega,fun _=>⟨hv,hs,fun j h1 h2=>absurd h2 (by omega)⟩,fun h=>by cases h⟩
theorem qbg.zero {X : Nat} {os : List Nat} {k : Nat} {b : Bool} (h : qbg X os k b) (h0 : dg os (k + 11) = 0) : qbg X os (k + 1) b:=by
 obtain ⟨hl,h1,h2,h3,h4⟩:=h
 refine ⟨hl,fun j hj=>h1 j (by omega),h2,fun hb=>?_,h4⟩
 obtain ⟨h5,h6,h7⟩:=h3 hb
 refine ⟨h5,h6,fun j hj1 hj2=>?_⟩
 by_cases e : j = k + 11
 ·rw [e];exact h0
 ·exact h7 j hj1 (by omega)
theorem fold_val {P a d X Y Z : Nat} (hd : 0 < d) (hP : 0 < P) (e1 : Y + P * a = X + P * (a + d * 19 * 512)) (e2 : Z + P * 16777216 ^ 11 * d = Y + P * 16777216 ^ 11 * 0) :
  Z < X∧Z % (2 ^ 255 - 19) = X % (2 ^ 255 - 19):=by
 have e3 : X = Z + (2 ^ 255 - 19) * (512 * (P * d)):=by
  have e4 : P * (d * 19 * 512) = P * d * 9728:=by rw [Nat.mul_assoc d,← Nat.mul_assoc P]
  rw [Nat.mul_add,e4] at e1
  rw [Nat.mul_right_comm P] at e2
  generalize P * d = Q at *
  omega
 have h1 : 0 < P * d:=Nat.mul_pos hP hd
 refine ⟨by omega,?_⟩
 rw [e3,Nat.add_mul_mod_self_left]
theorem qbg.step {X : Nat} {os : List Nat} {k : Nat} {b : Bool} (h : qbg X os k b) (hk : k < 12) (h0 : 0 < dg os (k + 11)) :
  qbg X ((os.set k (dg os k + dg os (k + 11) * 19 * 512)).set (k + 11) 0) (k + 1) true:=by
 obtain ⟨hl,h1,h2,h3,h4⟩:=h
 have e1:=qcj (l:=os) (i:=k) (by omega) (dg os k + dg os (k + 11) * 19 * 512)
 have e2:=qcj (l:=os.set k (dg os k + dg os (k + 11) * 19 * 512)) (i:=k + 11) (by rw [List.length_set];omega) 0
 rw [qby (by omega),if_neg (by omega),Nat.pow_add] at e2
 have hf:=fold_val h0 (Nat.pow_pos (by decide)) e1 e2
 have hk1:=h1 k (Nat.le_refl _)
 have hk2:=h1 (k + 11) (by omega)
 refine ⟨by simp [hl],fun j hj=>?_,fun j=>?_,fun hb=>(by cases hb),fun _=>?_⟩
 ·rw [qby (by rw [List.length_set];omega),qby (by omega)]
  split
  ·decide
  ·rw [if_neg (by omega)];exact h1 j (by omega)
 ·rw [qby (by rw [List.length_set];omega),qby (by omega)]
  split
  ·decide
  ·split
   ·omega
   ·exact h2 j
 ·cases b with
  | false =>
   have:=(h3 rfl).1
   rw [← this]
   exact hf
  | true =>
   have:=h4 rfl
   exact ⟨Nat.lt_trans hf.1 this.1,hf.2.trans this.2⟩
theorem top_val {P a d X Y Z q r : Nat} (hq : 0 < q) (e : r + 32768 * q = d) (e1 : Y + 16777216 ^ 0 * a = X + 16777216 ^ 0 * (a + 19 * q)) (e2 : Z + 16777216 ^ 10 * d = Y + 16777216 ^ 10 * r) :
  Z < X∧Z % (2 ^ 255 - 19) = X % (2 ^ 255 - 19):=by
 subst e
 have e3 : X = Z + (2 ^ 255 - 19) * q:=by omega
 refine ⟨by omega,?_⟩
 rw [e3,Nat.add_mul_mod_self_left]
theorem top_step {os : List Nat} (hl : os.length = 23) (hs : qa4 os) (h : 32768 ≤ dg os 10) :
  dval ((os.set 0 (dg os 0 + 19 * (dg os 10 / 32768))).set 10 (dg os 10 % 32768)) < dval os ∧
  dval ((os.set 0 (dg os 0 + 19 * (dg os 10 / 32768))).set 10 (dg os 10 % 32768)) % (2 ^ 255 - 19) = dval os % (2 ^ 255 - 19):=by
 have e1:=qcj (l:=os) (i:=0) (by omega) (dg os 0 + 19 * (dg os 10 / 32768))
 have e2:=qcj (l:=os.set 0 (dg os 0 + 19 * (dg os 10 / 32768))) (i:=10) (by rw [List.length_set];omega) (dg os 10 % 32768)
 rw [qby (by omega),if_neg (by omega)] at e2
 exact top_val (P:=0) (by omega) (Nat.mod_add_div _ _) e1 e2
structure SetInv (N : Nat) (os : List Nat) (b : Bool) : Prop where
 len : os.length = 23
 all : ∀ j,dg os j < 2 ^ 60
 val : dval os < 16777216 ^ 23
 mod : dval os % (2 ^ 255 - 19) = N
 no : b = false→qa4 os∧(∀ j,11 ≤ j→dg os j = 0)∧dg os 10 < 32768
theorem SetInv.last {N : Nat} {os : List Nat} (h : SetInv N os false) : qa4 (os.take 11)∧dval (os.take 11) < 2 ^ 255∧dval (os.take 11) % (2 ^ 255 - 19) = N:=by
 obtain ⟨h1,h2,h3⟩:=h.no rfl
 have e : dval (os.take 11) = dval os:=qhj h2
 refine ⟨h1.take _,?_,by rw [e];exact h.mod⟩
 have h4 : lo os 11 = lo os 10 + 16777216 ^ 10 * dg os 10:=qb5 os 10
 have h5:=qqs h1 10
 have h6 : dval (os.take 11) = lo os 11:=rfl
 rw [h6,h4]
 omega
theorem SetInv.fold {X N : Nat} {os : List Nat} {b : Bool} (h : qbg X os 12 b) (hX : X < 16777216 ^ 23) (hN : X % (2 ^ 255 - 19) = N) (hb : b = true ∨ dg os 10 < 32768) :
  SetInv N os b∧(2 * dval os + if b then 1 else 0) < 2 * X + 1:=by
 obtain ⟨hl,h1,h2,h3,h4⟩:=h
 cases b with
 | false =>
  obtain ⟨h5,h6,h7⟩:=h3 rfl
  refine ⟨⟨hl,fun j=>by have:=h2 j;omega,by rw [h5];exact hX,by rw [h5];exact hN,fun _=>⟨h6,fun j hj=>?_,?_⟩⟩,?_⟩
  ·by_cases e : j < 23
   ·exact h7 j hj e
   ·exact qhi (by omega)
  ·simpa using hb
  ·rw [h5];simp
 | true =>
  obtain ⟨h5,h6⟩:=h4 rfl
  refine ⟨⟨hl,fun j=>by have:=h2 j;omega,Nat.lt_trans h5 hX,by rw [h6];exact hN,fun h=>by cases h⟩,?_⟩
  simp only [if_true]
  omega
theorem SetInv.top {X N : Nat} {os : List Nat} (h : qbg X os 12 false) (hX : X < 16777216 ^ 23) (hN : X % (2 ^ 255 - 19) = N) (h10 : 32768 ≤ dg os 10) :
  SetInv N ((os.set 0 (dg os 0 + 19 * (dg os 10 / 32768))).set 10 (dg os 10 % 32768)) true ∧
  (2 * dval ((os.set 0 (dg os 0 + 19 * (dg os 10 / 32768))).set 10 (dg os 10 % 32768)) + if true then 1 else 0) < 2 * X + 1:=by
 obtain ⟨hl,h1,h2,h3,h4⟩:=h
 obtain ⟨h5,h6,h7⟩:=h3 rfl
 have hd0:=h6.dg 0
 have hd1:=h6.dg 10
 obtain ⟨h8,h9⟩:=top_step hl h6 h10
 rw [h5] at h8 h9
 refine ⟨⟨by simp [hl],fun j=>?_,Nat.lt_trans h8 hX,h9.trans hN,fun h=>by cases h⟩,?_⟩
 ·rw [qby (by rw [List.length_set];omega),qby (by omega)]
  split
  ·omega
  ·split
   ·omega
   ·have:=h2 j;omega
 ·simp only [if_true]
  omega
end Go.Cv.Dig
end
section
namespace Go.Cv
theorem qdd {P T : Nat→Prop} {M n : Nat} (h : P n) (hn : n < M) (hM : M = qeg T) : (∃ n,P n)∧qeg P < qeg T :=
 ⟨⟨n,h⟩,by rw [← hM];exact qku h hn⟩
end Go.Cv
namespace Go.Proofs.YtgeihelkkhjjaaaGreatDoor
open Go.RowKit Go.Cv Go.Cv.Dig

theorem qgt (w : World) (os0 : List Nat) (x0 : Nat × Array Obj) (N : Nat) (h0 : SetInv N os0 true) :
  Calls Tryz.prog 94 #[.slice (some ⟨w.heap.size,0,none⟩) 23 23] (grw (w.alloc (.cells (qar os0) 3)) x0) fun e w'=>∃ v,e = .returned v∧Num w' v N 11∧Ext w w':=by
 replace h0:=Lib.hid h0
 go_enter Tryz.func94,Tryz.ntmps94
 go_wp2
 obtain ⟨R,hR⟩ : ∃ R : World→Value→Nat→Prop,R = fun wr v n=>∃ (os : List Nat) (b : Bool) (x : Nat × Array Obj),n = 2 * dval os + (if b then 1 else 0)∧v = .bool b∧wr = grw (w.alloc (.cells (qar os) 3)) x∧Hid (SetInv N os b):=⟨_,rfl⟩
 replace hR:=Lib.hid hR
 go_loopw [3] (fun v wr=>∃ n,R wr v n) (fun v wr=>qeg (R wr v))
 case atStart=>exact ⟨_,by rw [hR.out];exact ⟨os0,true,x0,rfl,rfl,rfl,h0⟩⟩
 case round =>
  have hsp:=qf3 hrel
  clear hrel
  obtain ⟨M,hx⟩ : ∃ x,x = qeg (R wr u3):=⟨_,rfl⟩
  rw [← hx,hR.out] at hsp
  replace hx:=Lib.hid hx
  obtain ⟨os,b,x,hM,rfl,rfl,HS⟩:=hsp
  cases b with
  | false =>
   obtain ⟨l1,l2,l3⟩:=HS.out.last
   have hlen : (os.take 11).length = 11:=by rw [List.length_take,HS.out.len];rfl
   have L:=Lib.hid (And.intro l1 (And.intro l2 (And.intro l3 hlen)))
   clear l1 l2 l3 hlen
   have hrd : Rd (grw (w.alloc (.cells (qar os) 3)) x) (some ⟨w.heap.size,0,none⟩) ((os.take 11).map iv):=by rw [List.map_take];exact ((qh4 w os _).ext (qad _ _)).take 11
   go_wp2_with (first
    | (go_at_call 62;with_reducible refine (qf7 _ 11 _ (os.take 11) _ L.out.2.2.2 L.out.1 hrd (by decide) (by decide)).mono ?_;rintro e w' ⟨r,rfl,hri,hrv,hrc,rfl⟩)
    | (go_at_call 106;with_reducible refine (qil _ r _ ((os.take 11).take r) _ (by rw [List.length_take,L.out.2.2.2,Nat.min_eq_left hri]) hrc (by rw [hrv];exact L.out.2.1) (by rw [List.map_take];exact hrd.take r) hri (by omega)).mono ?_;rintro e w' ⟨v,rfl,hv,hx9⟩))
   go_ret
   exact ⟨_,rfl,by rw [hrv,L.out.2.2.1] at hv;exact hv,((qaa _ _).trans (qad _ _)).trans hx9⟩
  | true =>
   obtain ⟨X,hX⟩ : ∃ X,X = dval os:=⟨_,rfl⟩
   have HC : Hid (CarryInv X os 0):=Lib.hid (hX ▸ CarryInv.start HS.out.len HS.out.all)
   have HX : Hid (X < 16777216 ^ 23∧X % (2 ^ 255 - 19) = N∧M = 2 * X + 1):=Lib.hid ⟨hX ▸ HS.out.val,hX ▸ HS.out.mod,by rw [hM,hX];rfl⟩
   clear hM HS hX
   go_wp2
   go_loopw [4] (fun t wr=>∃ (i : Nat) (os : List Nat) (x : Nat × Array Obj),i ≤ 22∧t = .int .i64 i∧wr = grw (w.alloc (.cells (qar os) 3)) x∧Hid (CarryInv X os i)) (fun t _=>22 - (intOf t).toNat)
   case atStart=>exact ⟨0,os,x,by decide,rfl,rfl,HC⟩
   case round =>
    clear HC
    obtain ⟨i,os,x,hi,rfl,rfl,HC⟩:=hrel
    have hlen : (qar os).size = 23:=by rw [qcp,HC.out.len]
    by_cases hlt : i < 22
    ·have h1:=HC.out.at_
     have h2:=HC.out.far (i + 1) (by omega)
     have hg : (qar os)[i]? = some (iv (dg os i)):=qb2 os (by rw [HC.out.len];omega)
     have hg1 : ∀ h : i < (qar os).size,(qar os)[i]'h = iv (dg os i):=fun h=>by rw [Array.getElem?_eq_getElem h] at hg;exact Option.some.inj hg
     have hg2 : (qar os)[i + 1]? = some (iv (dg os (i + 1))):=qb2 os (by rw [HC.out.len];omega)
     have hg3 : ∀ h : i + 1 < (qar os).size,(qar os)[i + 1]'h = iv (dg os (i + 1)):=fun h=>by rw [Array.getElem?_eq_getElem h] at hg2;exact Option.some.inj hg2
     have HT:=Lib.hid (HC.out.step hlt)
     obtain ⟨e,he⟩ : ∃ e,e = dg os (i + 1) + dg os i / 16777216:=⟨_,rfl⟩
     have w0 : IntKind.i64.wrap ((i : Int) + 1) = (i : Int) + 1:=IntWalk.i64_in _ (by omega)
     have w1 : IntKind.i64.wrap ((dg os i : Int) / 16777216) = (dg os i : Int) / 16777216:=IntWalk.i64_in _ (by omega)
     have w2 : IntKind.i64.wrap ((dg os (i + 1) : Int) + (dg os i : Int) / 16777216) = (e : Int):=by rw [IntWalk.i64_in _ (by omega),he];rfl
     go_wp2
     go_region
     all_goals
      go_wp2
      refine ⟨⟨i + 1,(os.set (i + 1) (dg os (i + 1) + dg os i / 16777216)).set i (dg os i % 16777216),_,by omega,by go_num,by rw [← qbt,← qbt];rfl,HT⟩,by simp [intOf];omega⟩
    ·have hin : i = 22:=by omega
     subst hin
     have HD:=Lib.hid (HC.out.done HX.out.1)
     have HF : Hid (qbg X os 0 false):=Lib.hid (qbg.start HD.out.1 HD.out.2.1 HD.out.2.2)
     clear HD HC hlen
     go_wp2
     go_loopw [3,5] (fun v t wr=>∃ (k : Nat) (b : Bool) (os : List Nat) (x : Nat × Array Obj),k ≤ 12∧v = .bool b∧t = .int .i64 ((k + 11 : Nat) : Int)∧wr = grw (w.alloc (.cells (qar os) 3)) x∧Hid (qbg X os k b)) (fun _ t _=>23 - (intOf t).toNat)
     case atStart=>exact ⟨0,false,os,x,by decide,rfl,rfl,rfl,HF⟩
     case round =>
      clear HF
      obtain ⟨k,b,os,x,hk,rfl,rfl,rfl,HF⟩:=hrel
      have hlen : (qar os).size = 23:=by rw [qcp,HF.out.len]
      by_cases hlt : k < 12
      ·have h1:=HF.out.far k (Nat.le_refl _)
       have h2:=HF.out.far (k + 11) (by omega)
       have hg : (qar os)[k]? = some (iv (dg os k)):=qb2 os (by rw [HF.out.len];omega)
       have hg1 : ∀ h : k < (qar os).size,(qar os)[k]'h = iv (dg os k):=fun h=>by rw [Array.getElem?_eq_getElem h] at hg;exact Option.some.inj hg
       have hg2 : (qar os)[k + 11]? = some (iv (dg os (k + 11))):=qb2 os (by rw [HF.out.len];omega)
       have hg3 : ∀ h : k + 11 < (qar os).size,(qar os)[k + 11]'h = iv (dg os (k + 11)):=fun h=>by rw [Array.getElem?_eq_getElem h] at hg2;exact Option.some.inj hg2
       have w0 : IntKind.i64.wrap (((k + 11 : Nat) : Int) - 11) = (k : Int):=by rw [IntWalk.i64_in _ (by omega)];omega
       have w5 : ((k + 11 : Nat) : Int) < 23:=by omega
       by_cases hz : dg os (k + 11) = 0
       ·have HT:=Lib.hid (HF.out.zero hz)
        rw [hz] at hg2 hg3
        go_wp2
        refine ⟨⟨k + 1,b,os,x,by omega,rfl,by go_num,rfl,HT⟩,by simp [intOf];omega⟩
       ·have HT:=Lib.hid (HF.out.step hlt (Nat.pos_of_ne_zero hz))
        have hz' : (0 : Int) < (dg os (k + 11) : Int):=by omega
        have w1 : IntKind.i64.wrap ((dg os (k + 11) : Int) * 19) = (dg os (k + 11) : Int) * 19:=IntWalk.i64_in _ (by omega)
        have w2 : IntKind.i64.wrap ((dg os (k + 11) : Int) * 19 * 512) = (dg os (k + 11) : Int) * 19 * 512:=IntWalk.i64_in _ (by omega)
        have w3 : IntKind.i64.wrap ((dg os k : Int) + (dg os (k + 11) : Int) * 19 * 512) = (dg os k : Int) + (dg os (k + 11) : Int) * 19 * 512:=IntWalk.i64_in _ (by omega)
        go_wp2
        go_region
        all_goals
         go_wp2
         refine ⟨⟨k + 1,true,(os.set k (dg os k + dg os (k + 11) * 19 * 512)).set (k + 11) 0,_,by omega,rfl,by go_num,by rw [← qbt,← qbt];rfl,HT⟩,by simp [intOf];omega⟩
      ·have hkn : k = 12:=by omega
       subst hkn
       have hg : (qar os)[10]? = some (iv (dg os 10)):=qb2 os (by rw [HF.out.len];omega)
       have hg1 : ∀ h : 10 < (qar os).size,(qar os)[10]'h = iv (dg os 10):=fun h=>by rw [Array.getElem?_eq_getElem h] at hg;exact Option.some.inj hg
       have hg2 : (qar os)[0]? = some (iv (dg os 0)):=qb2 os (by rw [HF.out.len];omega)
       have hg3 : ∀ h : 0 < (qar os).size,(qar os)[0]'h = iv (dg os 0):=fun h=>by rw [Array.getElem?_eq_getElem h] at hg2;exact Option.some.inj hg2
       have h10:=HF.out.all 10
       have h00:=HF.out.all 0
       cases b with
       | true =>
        have HT:=Lib.hid (SetInv.fold HF.out HX.out.1 HX.out.2.1 (.inl rfl))
        go_wp2
        refine qdd (n:=2 * dval os + if true then 1 else 0) ?_ ?_ hx.out
        ·rw [hR.out]
         exact ⟨os,true,x,rfl,rfl,rfl,Lib.hid HT.out.1⟩
        ·rw [HX.out.2.2]
         exact HT.out.2
       | false =>
        by_cases hz : 32768 ≤ dg os 10
        ·have hz' : decide ((32768 : Int) ≤ (dg os 10 : Int)) = true:=decide_eq_true (by omega)
         have HT:=Lib.hid (SetInv.top HF.out HX.out.1 HX.out.2.1 hz)
         have w1 : IntKind.i64.wrap ((dg os 10 : Int) / 32768) = (dg os 10 : Int) / 32768:=IntWalk.i64_in _ (by omega)
         have w2 : IntKind.i64.wrap (19 * ((dg os 10 : Int) / 32768)) = 19 * ((dg os 10 : Int) / 32768):=IntWalk.i64_in _ (by omega)
         have w3 : IntKind.i64.wrap ((dg os 0 : Int) + 19 * ((dg os 10 : Int) / 32768)) = (dg os 0 : Int) + 19 * ((dg os 10 : Int) / 32768):=IntWalk.i64_in _ (by omega)
         clear hz
         go_wp2
         go_region
         all_goals
          go_wp2
          refine qdd (n:=2 * dval ((os.set 0 (dg os 0 + 19 * (dg os 10 / 32768))).set 10 (dg os 10 % 32768)) + if true then 1 else 0) ?_ ?_ hx.out
          ·rw [hR.out]
           exact ⟨(os.set 0 (dg os 0 + 19 * (dg os 10 / 32768))).set 10 (dg os 10 % 32768),true,_,rfl,rfl,by rw [← qbt,← qbt];rfl,Lib.hid HT.out.1⟩
          ·rw [HX.out.2.2]
           exact HT.out.2
        ·have hz' : decide ((32768 : Int) ≤ (dg os 10 : Int)) = false:=decide_eq_false (by omega)
         have HT:=Lib.hid (SetInv.fold HF.out HX.out.1 HX.out.2.1 (.inr (by omega)))
         clear hz
         go_wp2
         refine qdd (n:=2 * dval os + if false then 1 else 0) ?_ ?_ hx.out
         ·rw [hR.out]
          exact ⟨os,false,x,rfl,rfl,rfl,Lib.hid HT.out.1⟩
         ·rw [HX.out.2.2]
          exact HT.out.2
end Go.Proofs.YtgeihelkkhjjaaaGreatDoor
end
section
namespace Go.Cv.Dig
open Go.RowKit
theorem qk5 (n j : Nat) : dg (List.replicate n 0) j = 0:=by
 unfold dg
 rw [List.getD_eq_getElem?_getD,List.getElem?_replicate]
 split <;> rfl
theorem qj0 (n : Nat) : dval (List.replicate n 0) = 0:=qfk fun d hd=>List.eq_of_mem_replicate hd
structure AddInv (a b os : List Nat) (i : Nat) : Prop where
 len : os.length = 23
 all : ∀ j,dg os j < 2 ^ 26
 far : ∀ j,i ≤ j→dg os j = 0
 val : dval os = lo a i + lo b i
theorem AddInv.start (a b : List Nat) : AddInv a b (List.replicate 23 0) 0 :=
 ⟨by simp,fun j=>by rw [qk5];decide,fun j _=>qk5 _ _,by rw [qj0,qcy,qcy]⟩
theorem AddInv.step {a b os : List Nat} {i : Nat} (ha : qa4 a) (hb : qa4 b) (h : AddInv a b os i) (hi : i < 11) :
  AddInv a b (os.set i (dg a i + dg b i)) (i + 1):=by
 obtain ⟨hl,h1,h2,h3⟩:=h
 have ha:=ha.dg i
 have hb:=hb.dg i
 have e1:=qcj (l:=os) (i:=i) (by omega) (dg a i + dg b i)
 rw [h2 i (Nat.le_refl _),Nat.mul_zero,Nat.add_zero,Nat.mul_add] at e1
 refine ⟨by simp [hl],fun j=>?_,fun j hj=>?_,?_⟩
 ·rw [qby (by omega)]
  split
  ·omega
  ·exact h1 j
 ·rw [qby (by omega),if_neg (by omega)];exact h2 j (by omega)
 ·rw [e1,qb5,qb5];omega
theorem qi3 {os : List Nat} (h0 : ∀ j,12 ≤ j→dg os j = 0) (h : ∀ j,dg os j < 2 ^ 60) : dval os < 16777216 ^ 23:=by
 have key : ∀ n,lo os n ≤ 2 ^ 60 * 16777216 ^ n:=by
  intro n
  induction n with
  | zero=>rw [qcy];omega
  | succ n ih =>
   rw [qb5,show (16777216 : Nat) ^ (n + 1) = 16777216 ^ n * 16777216 from Nat.pow_succ ..]
   have h1:=h n
   have h2 : 16777216 ^ n * dg os n ≤ 16777216 ^ n * 2 ^ 60:=Nat.mul_le_mul_left _ (Nat.le_of_lt h1)
   generalize 16777216 ^ n = P at *
   generalize P * dg os n = Q at *
   omega
 have e : dval os = lo os 12:=(qhj h0).symm
 have:=key 12
 rw [e]
 omega
theorem AddInv.done {a b os : List Nat} (h : AddInv a b os 11) (ha : a.length ≤ 11) (hb : b.length ≤ 11) : SetInv ((dval a + dval b) % (2 ^ 255 - 19)) os true:=by
 obtain ⟨hl,h1,h2,h3⟩:=h
 rw [qdy ha,qdy hb] at h3
 have h4 : ∀ j,dg os j < 2 ^ 60:=fun j=>by have:=h1 j;omega
 exact ⟨hl,h4,qi3 (fun j hj=>h2 j (by omega)) h4,by rw [h3],fun h=>by cases h⟩
structure SubInv (a b os : List Nat) (i : Nat) : Prop where
 len : os.length = 23
 all : ∀ j,dg os j < 2 ^ 26
 far : ∀ j,i ≤ j→dg os j = 0
 val : dval os + lo b i = lo a i + 2 * lo pdig i
theorem SubInv.start (a b : List Nat) : SubInv a b (List.replicate 23 0) 0 :=
 ⟨by simp,fun j=>by rw [qk5];decide,fun j _=>qk5 _ _,by rw [qj0,qcy,qcy,qcy]⟩
theorem SubInv.step {a b os : List Nat} {i : Nat} (ha : qa4 a) (h : SubInv a b os i) (hi : i < 11) (hb : dg b i ≤ dg a i + 2 * dg pdig i) :
  SubInv a b (os.set i (dg a i + 2 * dg pdig i - dg b i)) (i + 1):=by
 obtain ⟨hl,h1,h2,h3⟩:=h
 have ha:=ha.dg i
 have hp:=qee.1.dg i
 have e1:=qcj (l:=os) (i:=i) (by omega) (dg a i + 2 * dg pdig i - dg b i)
 rw [h2 i (Nat.le_refl _),Nat.mul_zero,Nat.add_zero] at e1
 have e2 : 16777216 ^ i * (dg a i + 2 * dg pdig i - dg b i) + 16777216 ^ i * dg b i = 16777216 ^ i * dg a i + 2 * (16777216 ^ i * dg pdig i):=by
  rw [← Nat.mul_add,Nat.sub_add_cancel hb,Nat.mul_add,Nat.mul_left_comm]
 refine ⟨by simp [hl],fun j=>?_,fun j hj=>?_,?_⟩
 ·rw [qby (by omega)]
  split
  ·omega
  ·exact h1 j
 ·rw [qby (by omega),if_neg (by omega)];exact h2 j (by omega)
 ·rw [e1,qb5,qb5,qb5];omega
theorem pdig_dg : ∀ i,i < 10→8388608 ≤ dg pdig i:=by decide
theorem sub_ok {b : List Nat} (hb : qa4 b) (h10 : dg b 10 < 32768) (i : Nat) (hi : i < 11) : dg b i ≤ 2 * dg pdig i:=by
 have h1:=hb.dg i
 by_cases h : i = 10
 ·subst h
  have : dg pdig 10 = 32767:=by decide
  omega
 ·have:=pdig_dg i (by omega);omega
theorem top_dg {b : List Nat} (hv : dval b < 2 ^ 255) : dg b 10 < 32768:=by
 rcases Nat.lt_or_ge 10 b.length with h | h
 ·have:=qi5 h;omega
 ·rw [qhi h];decide
theorem SubInv.done {a b os : List Nat} (h : SubInv a b os 11) (ha : a.length ≤ 11) (hb : b.length ≤ 11) : SetInv ((dval a + 2 * (2 ^ 255 - 19) - dval b) % (2 ^ 255 - 19)) os true:=by
 obtain ⟨hl,h1,h2,h3⟩:=h
 have hp : lo pdig 11 = 2 ^ 255 - 19:=by rw [qdy (by decide),qfh]
 rw [qdy ha,qdy hb,hp] at h3
 have h4 : ∀ j,dg os j < 2 ^ 60:=fun j=>by have:=h1 j;omega
 refine ⟨hl,h4,qi3 (fun j hj=>h2 j (by omega)) h4,?_,fun h=>by cases h⟩
 congr 1
 omega
structure qaz (D : Nat) (a b os : List Nat) (i k : Nat) : Prop where
 len : os.length = 23
 near : ∀ j,j < i + k→dg os j ≤ (i + 1) * D
 far : ∀ j,i + k ≤ j→dg os j ≤ i * D
 val : dval os = lo a i * dval b + 16777216 ^ i * (dg a i * lo b k)
theorem qaz.start (D : Nat) (a b : List Nat) : qaz D a b (List.replicate 23 0) 0 0 :=
 ⟨by simp,fun j hj=>absurd hj (by omega),fun j _=>by rw [qk5];exact Nat.zero_le _,by rw [qj0,qcy,qcy];simp⟩
theorem qaz.step {D : Nat} (hD : D = 281474976710656) {a b os : List Nat} {i k : Nat} (ha : qa4 a) (hb : qa4 b) (h : qaz D a b os i k) (hi : i + k < 23) :
  qaz D a b (os.set (i + k) (dg os (i + k) + dg a i * dg b k)) i (k + 1)∧dg os (i + k) ≤ i * D∧dg a i * dg b k < D:=by
 obtain ⟨hl,h1,h2,h3⟩:=h
 have ha:=ha.dg i
 have hb:=hb.dg k
 have hm : dg a i * dg b k ≤ 16777215 * 16777215:=Nat.mul_le_mul (by omega) (by omega)
 have hf:=h2 (i + k) (Nat.le_refl _)
 have e1:=qcj (l:=os) (i:=i + k) (by omega) (dg os (i + k) + dg a i * dg b k)
 refine ⟨⟨by simp [hl],fun j hj=>?_,fun j hj=>?_,?_⟩,hf,by omega⟩
 ·rw [qby (by omega)]
  split
  ·rw [Nat.add_mul];omega
  ·exact h1 j (by omega)
 ·rw [qby (by omega),if_neg (by omega)];exact h2 j (by omega)
 ·rw [Nat.mul_add] at e1
  have e2 : 16777216 ^ (i + k) * (dg a i * dg b k) = 16777216 ^ i * (dg a i * (16777216 ^ k * dg b k)):=by
   rw [Nat.pow_add,Nat.mul_assoc,Nat.mul_left_comm (16777216 ^ k)]
  rw [qb5,Nat.mul_add (dg a i),Nat.mul_add (16777216 ^ i),← e2]
  omega
theorem qaz.row {D : Nat} {a b os : List Nat} {i : Nat} (h : qaz D a b os i b.length) : qaz D a b os (i + 1) 0:=by
 obtain ⟨hl,h1,h2,h3⟩:=h
 refine ⟨hl,fun j hj=>?_,fun j hj=>?_,?_⟩
 ·rcases Nat.lt_or_ge j (i + b.length) with h | h
  ·have:=h1 j h;rw [Nat.add_mul];omega
  ·have:=h2 j h;rw [Nat.add_mul,Nat.add_mul];omega
 ·rcases Nat.lt_or_ge j (i + b.length) with h | h
  ·have:=h1 j h;omega
  ·have:=h2 j h;rw [Nat.add_mul];omega
 ·rw [h3,qdy (Nat.le_refl _),qcy,qb5,Nat.add_mul,← Nat.mul_assoc,Nat.mul_zero,Nat.mul_zero,Nat.add_zero]
theorem prod_lt {x y : Nat} (hx : x < 16777216 ^ 11) (hy : y < 16777216 ^ 11) : x * y < 16777216 ^ 23:=by
 refine Nat.lt_of_le_of_lt (Nat.mul_le_mul (Nat.le_of_lt hx) (Nat.le_of_lt hy)) ?_
 rw [← Nat.pow_add]
 exact Nat.pow_lt_pow_right (by decide) (by decide)
theorem qaz.done {D : Nat} (hD : D = 281474976710656) {a b os : List Nat} (h : qaz D a b os a.length 0) (hla : a.length ≤ 11) (hlb : b.length ≤ 11) (ha : qa4 a) (hb : qa4 b) : SetInv ((dval a * dval b) % (2 ^ 255 - 19)) os true:=by
 obtain ⟨hl,h1,h2,h3⟩:=h
 rw [qdy (Nat.le_refl _),qcy,Nat.mul_zero,Nat.mul_zero,Nat.add_zero] at h3
 refine ⟨hl,fun j=>?_,?_,by rw [h3],fun h=>by cases h⟩
 ·have : (a.length + 1) * D ≤ 12 * D:=Nat.mul_le_mul_right _ (by omega)
  have h9 : a.length * D ≤ 12 * D:=Nat.mul_le_mul_right _ (by omega)
  rcases Nat.lt_or_ge j (a.length + 0) with h | h
  ·have:=h1 j h;omega
  ·have:=h2 j h;omega
 ·have h4:=ha.lt
  have h5:=hb.lt
  have h6 : 16777216 ^ a.length ≤ 16777216 ^ 11:=Nat.pow_le_pow_right (by decide) hla
  have h7 : 16777216 ^ b.length ≤ 16777216 ^ 11:=Nat.pow_le_pow_right (by decide) hlb
  rw [h3]
  exact prod_lt (by omega) (by omega)
end Go.Cv.Dig
end
end
section
section
namespace Go.Proofs.YtgeihelkkhjjaaaGreatDoor
open Go.RowKit Go.Cv Go.Cv.Dig
@[go_sem] theorem make_int23 (w : World) : (Instr.makeSlice 53 (.int .i64 23) (.int .i64 23)).run Tryz.prog w =
  .ok (.slice (some ⟨w.heap.size,0,none⟩) 23 23) (w.alloc (.cells (qar (List.replicate 23 0)) 3)):=qju 23 w (by decide)

theorem radd_any (w : World) (v1 v2 : Value) (x y : Nat) (h1 : Num w v1 x 11) (h2 : Num w v2 y 11) :
  Calls Tryz.prog 68 #[v1,v2] w fun e w'=>∃ v,e = .returned v∧Num w' v ((x + y) % (2 ^ 255 - 19)) 11∧Ext w w':=by
 obtain ⟨A,n,c,l,rfl,hn,hc,hr,hcan,hval,hle⟩:=h1
 obtain ⟨B,n2,c2,l2,rfl,hn2,hc2,hr2,hcan2,hval2,hle2⟩:=h2
 have HN:=Lib.hid hn
 have HN2:=Lib.hid hn2
 have HC:=Lib.hid (And.intro hcan.1 hcan2.1)
 have HD : Hid (∀ os,AddInv l l2 os 11→SetInv ((x + y) % (2 ^ 255 - 19)) os true):=Lib.hid fun os h=>by rw [← hval,← hval2];exact h.done (by omega) (by omega)
 clear hn hn2 hcan hcan2 hval hval2
 go_enter Tryz.func68,Tryz.ntmps68
 go_wp2
 go_loopw [6] (fun t wr=>∃ (i : Nat) (os : List Nat) (x : Nat × Array Obj),i ≤ 11∧t = .int .i64 i∧wr = grw (w.alloc (.cells (qar os) 3)) x∧Hid (AddInv l l2 os i)) (fun t _=>11 - (intOf t).toNat)
 case atStart=>exact ⟨0,List.replicate 23 0,_,by decide,rfl,qd1 _,Lib.hid (AddInv.start l l2)⟩
 case round =>
  obtain ⟨i,os,x,hi,rfl,rfl,HP⟩:=hrel
  have hlen : (qar os).size = 23:=by rw [qcp,HP.out.len]
  by_cases hlt : i < 11
  ·have h1:=HC.out.1.dg i
   have h2:=HC.out.2.dg i
   have HT:=Lib.hid (HP.out.step HC.out.1 HC.out.2 hlt)
   have hg : (qar os)[i]? = some (iv (dg os i)):=qb2 os (by rw [HP.out.len];omega)
   have e1 : ∀ X : Nat × Array Obj,Rd (grw (w.alloc (.cells (qar os) 3)) X) A (l.map iv):=fun X=>hr.ext ((qaa _ _).trans (qad _ _))
   have e2 : ∀ X : Nat × Array Obj,Rd (grw (w.alloc (.cells (qar os) 3)) X) B (l2.map iv):=fun X=>hr2.ext ((qaa _ _).trans (qad _ _))
   go_wp2_with (first
    | (go_at_call 79;with_reducible refine (qbr A n c l i _ HN.out (e1 _) (by omega) (by omega)).mono ?_;rintro e w' ⟨rfl,rfl⟩)
    | (go_at_call 79;with_reducible refine (qbr B n2 c2 l2 i _ HN2.out (e2 _) (by omega) (by omega)).mono ?_;rintro e w' ⟨rfl,rfl⟩))
   refine ⟨⟨i + 1,os.set i (dg l i + dg l2 i),_,by omega,by go_num,by rw [← qbt];rfl,HT⟩,by simp [intOf];omega⟩
  ·have hin : i = 11:=by omega
   subst hin
   have HT:=Lib.hid (HD.out os HP.out)
   go_wp2_with (go_at_call 94;with_reducible refine (qgt w os x _ HT.out).mono ?_;rintro e w' ⟨v,rfl,hv,hx⟩)
   go_ret
   exact ⟨_,rfl,hv,hx⟩

theorem qrz (w : World) (o : Obj) : (w.alloc o).heap.size = w.heap.size + 1:=by
 show (w.heap.push _).size = _
 rw [Array.size_push]
theorem al_size (w : World) (o o' : Obj) : (w.alloc o).heap.size = (w.alloc o').heap.size:=by rw [qrz,qrz]
theorem p_new (w : World) :
  Calls Tryz.prog 59 #[] w fun e w'=>e = .returned (.slice (some ⟨w.heap.size,0,none⟩) 11 11)∧(∀ j,j < 11→w'.cell? ⟨w.heap.size,j,none⟩ = some (iv (dg pdig j)))∧Ext w w':=by
 go_enter Tryz.func59,Tryz.ntmps59
 go_wp2
 go_ret
 refine ⟨rfl,fun j hj=>?_,qaa _ _⟩
 rw [World.cell?_alloc_at _ _ _ _ rfl]
 rcases (by omega : j = 0 ∨ j = 1 ∨ j = 2 ∨ j = 3 ∨ j = 4 ∨ j = 5 ∨ j = 6 ∨ j = 7 ∨ j = 8 ∨ j = 9 ∨ j = 10) with rfl | rfl | rfl | rfl | rfl | rfl | rfl | rfl | rfl | rfl | rfl <;> rfl

theorem qm2 (w : World) (v1 v2 : Value) (x y : Nat) (h1 : Num w v1 x 11) (h2 : Num w v2 y 11) (hy : y < 2 ^ 255) :
  Calls Tryz.prog 61 #[v1,v2] w fun e w'=>∃ v,e = .returned v∧Num w' v ((x + 2 * (2 ^ 255 - 19) - y) % (2 ^ 255 - 19)) 11∧Ext w w':=by
 obtain ⟨A,n,c,l,rfl,hn,hc,hr,hcan,hval,hle⟩:=h1
 obtain ⟨B,n2,c2,l2,rfl,hn2,hc2,hr2,hcan2,hval2,hle2⟩:=h2
 have HN:=Lib.hid hn
 have HN2:=Lib.hid hn2
 have HC:=Lib.hid (And.intro hcan.1 hcan2.1)
 have HO:=Lib.hid (sub_ok hcan2.1 (top_dg (by rw [hval2];exact hy)))
 obtain ⟨N,hN⟩ : ∃ N,N = (x + 2 * (2 ^ 255 - 19) - y) % (2 ^ 255 - 19):=⟨_,rfl⟩
 have HD : Hid (∀ os,SubInv l l2 os 11→SetInv N os true):=Lib.hid fun os h=>by rw [hN,← hval,← hval2];exact h.done (by omega) (by omega)
 rw [← hN]
 clear hn hn2 hcan hcan2 hval hval2 hy hN
 go_enter Tryz.func61,Tryz.ntmps61
 go_wp2_with (go_at_call 59;with_reducible refine (p_new _).mono ?_;rintro e w' ⟨rfl,hD,hx⟩;obtain ⟨x',rfl⟩:=qah hx;clear hx)
 have hP : ∀ (os : List Nat) (z j : Nat),j < 11→(grw (w.alloc (.cells (qar os) 3)) (z,x'.2)).cell? ⟨w.heap.size + 1,j,none⟩ = some (iv (dg pdig j)):=by
  intro os z j hj
  have h:=qav (w2:=w.alloc (.cells (qar os) 3)) (al_size _ _ _) (Nat.le_refl _) (hD j hj) z #[]
  rw [Array.append_empty,qrz] at h
  exact h
 clear hD
 go_loopw [7] (fun t wr=>∃ (i : Nat) (os : List Nat) (x : Nat × Array Obj),i ≤ 11∧t = .int .i64 i∧wr = grw (w.alloc (.cells (qar os) 3)) x∧x.2 = x'.2∧Hid (SubInv l l2 os i)) (fun t _=>11 - (intOf t).toNat)
 case atStart=>exact ⟨0,List.replicate 23 0,_,by decide,rfl,rfl,rfl,Lib.hid (SubInv.start l l2)⟩
 case round =>
  obtain ⟨i,os,x,hi,rfl,rfl,hx2,HP⟩:=hrel
  have hlen : (qar os).size = 23:=by rw [qcp,HP.out.len]
  by_cases hlt : i < 11
  ·have h1:=HC.out.1.dg i
   have h2:=HC.out.2.dg i
   have h3:=qee.1.dg i
   have h4:=HO.out i hlt
   have HT:=Lib.hid (HP.out.step HC.out.1 hlt (by omega))
   have hg : (qar os)[i]? = some (iv (dg os i)):=qb2 os (by rw [HP.out.len];omega)
   have e1 : ∀ X : Nat × Array Obj,Rd (grw (w.alloc (.cells (qar os) 3)) X) A (l.map iv):=fun X=>hr.ext ((qaa _ _).trans (qad _ _))
   have e2 : ∀ X : Nat × Array Obj,Rd (grw (w.alloc (.cells (qar os) 3)) X) B (l2.map iv):=fun X=>hr2.ext ((qaa _ _).trans (qad _ _))
   have hPx : ∀ z : Nat,(grw (w.alloc (.cells (qar os) 3)) (z,x.2)).cell? ⟨w.heap.size + 1,i,none⟩ = some (iv (dg pdig i)):=fun z=>by rw [hx2];exact hP os z i hlt
   obtain ⟨e,he⟩ : ∃ e,e = dg l i + 2 * dg pdig i - dg l2 i:=⟨_,rfl⟩
   rw [← he] at HT
   have w1 : IntKind.i64.wrap (2 * (dg pdig i : Int)) = 2 * (dg pdig i : Int):=IntWalk.i64_in _ (by omega)
   have w2 : IntKind.i64.wrap ((dg l i : Int) + 2 * (dg pdig i : Int)) = (dg l i : Int) + 2 * (dg pdig i : Int):=IntWalk.i64_in _ (by omega)
   have w3 : IntKind.i64.wrap ((dg l i : Int) + 2 * (dg pdig i : Int) - (dg l2 i : Int)) = (e : Int):=by rw [IntWalk.i64_in _ (by omega)];omega
   have b1 : (i : Int) < 23:=by omega
   have b2 : (i : Int) < 11:=by omega
   replace hx2:=Lib.hid hx2
   clear hP he
   go_wp2
   go_region_law (first
    | (go_simp;go_at_call 79;(with_reducible refine (qbr A n c l i _ HN.out (e1 _) (by omega) (by omega)).mono ?_);rintro e w' ⟨rfl,rfl⟩)
    | (go_simp;go_at_call 79;(with_reducible refine (qbr B n2 c2 l2 i _ HN2.out (e2 _) (by omega) (by omega)).mono ?_);rintro e w' ⟨rfl,rfl⟩))
   all_goals
    go_wp2
    refine ⟨⟨i + 1,os.set i e,(x.1 + 1,x.2),by omega,by go_num,by rw [← qbt],hx2.out,HT⟩,by simp [intOf];omega⟩
  ·have hin : i = 11:=by omega
   subst hin
   have HT:=Lib.hid (HD.out os HP.out)
   go_wp2_with (go_at_call 94;with_reducible refine (qgt w os x _ HT.out).mono ?_;rintro e w' ⟨v,rfl,hv,hx⟩)
   go_ret
   exact ⟨_,rfl,hv,hx⟩

theorem qji (w : World) (v1 v2 : Value) (x y : Nat) (h1 : Num w v1 x 11) (h2 : Num w v2 y 11) :
  Calls Tryz.prog 67 #[v1,v2] w fun e w'=>∃ v,e = .returned v∧Num w' v ((x * y) % (2 ^ 255 - 19)) 11∧Ext w w':=by
 obtain ⟨A,n,c,l,rfl,hn,hc,hr,hcan,hval,hle⟩:=h1
 obtain ⟨B,n2,c2,l2,rfl,hn2,hc2,hr2,hcan2,hval2,hle2⟩:=h2
 obtain ⟨N,hN⟩ : ∃ N,N = (x * y) % (2 ^ 255 - 19):=⟨_,rfl⟩
 obtain ⟨D,hD⟩ : ∃ D,D = 281474976710656:=⟨_,rfl⟩
 have HD : Hid (∀ os,qaz D l l2 os n 0→SetInv N os true):=Lib.hid fun os h=>by rw [hN,← hval,← hval2];rw [← hn] at h;exact h.done hD (by omega) (by omega) hcan.1 hcan2.1
 have HN:=Lib.hid hn
 have HN2:=Lib.hid hn2
 have HC:=Lib.hid (And.intro hcan.1 hcan2.1)
 rw [← hN]
 clear hn hn2 hcan hcan2 hval hval2 hN
 go_enter Tryz.func67,Tryz.ntmps67
 go_wp2
 go_loopw [6] (fun t wr=>∃ (i : Nat) (os : List Nat) (x : Nat × Array Obj),i ≤ n∧t = .int .i64 i∧wr = grw (w.alloc (.cells (qar os) 3)) x∧Hid (qaz D l l2 os i 0)) (fun t _=>n - (intOf t).toNat)
 case atStart=>exact ⟨0,List.replicate 23 0,_,by omega,rfl,qd1 _,Lib.hid (qaz.start D l l2)⟩
 case round =>
  obtain ⟨i,os,x,hi,rfl,rfl,HP⟩:=hrel
  by_cases hlt : i < n
  ·obtain ⟨ad,rfl,hcell⟩:=hr.at_ (k:=i) (by rw [List.length_map,HN.out];exact hlt)
   rw [List.getElem_map,← qdw] at hcell
   go_wp2
   go_loopw [7] (fun t wr=>∃ (k : Nat) (os : List Nat) (x : Nat × Array Obj),k ≤ n2∧t = .int .i64 k∧wr = grw (w.alloc (.cells (qar os) 3)) x∧Hid (qaz D l l2 os i k)) (fun t _=>n2 - (intOf t).toNat)
   case atStart=>exact ⟨0,os,x,by omega,rfl,rfl,HP⟩
   case round =>
    clear HP
    obtain ⟨k,os,x,hk,rfl,rfl,HP⟩:=hrel
    have hlen : (qar os).size = 23:=by rw [qcp,HP.out.len]
    by_cases hlk : k < n2
    ·obtain ⟨bd,rfl,hcell2⟩:=hr2.at_ (k:=k) (by rw [List.length_map,HN2.out];exact hlk)
     rw [List.getElem_map,← qdw] at hcell2
     obtain ⟨j,hj⟩ : ∃ j,j = i + k:=⟨_,rfl⟩
     have hst:=HP.out.step hD HC.out.1 HC.out.2 (by omega)
     rw [← hj] at hst
     have hD2 : i * D ≤ 11 * D:=Nat.mul_le_mul_right _ (by omega)
     have h3:=hst.2.1
     have h4:=hst.2.2
     have HT:=Lib.hid hst.1
     clear hst
     have hg : (qar os)[j]? = some (iv (dg os j)):=qb2 os (by rw [HP.out.len];omega)
     have hg1 : ∀ h : j < (qar os).size,(qar os)[j]'h = iv (dg os j):=fun h=>by rw [Array.getElem?_eq_getElem h] at hg;exact Option.some.inj hg
     have hall : ∀ z : Nat,(grw (w.alloc (.cells (qar os) 3)) (z,x.2)).cell? (ad.add i) = some (iv (dg l i)):=fun z=>Ext.cell ((qaa _ _).trans (qad _ _)) hcell
     have hbll : ∀ z : Nat,(grw (w.alloc (.cells (qar os) 3)) (z,x.2)).cell? (bd.add k) = some (iv (dg l2 k)):=fun z=>Ext.cell ((qaa _ _).trans (qad _ _)) hcell2
     have w0 : IntKind.i64.wrap ((i : Int) + (k : Int)) = (j : Int):=by rw [IntWalk.i64_in _ (by omega)];omega
     obtain ⟨m,hm⟩ : ∃ m,m = dg l i * dg l2 k:=⟨_,rfl⟩
     rw [← hm] at HT h4
     have hmi : (dg l i : Int) * (dg l2 k : Int) = (m : Int):=by rw [hm];rfl
     have w1 : IntKind.i64.wrap ((dg l i : Int) * (dg l2 k : Int)) = (m : Int):=by rw [hmi];exact IntWalk.i64_in _ (by omega)
     have w2 : IntKind.i64.wrap ((dg os j : Int) + (m : Int)) = (dg os j : Int) + (m : Int):=IntWalk.i64_in _ (by omega)
     have b1 : (j : Int) < 23:=by omega
     have b2 : (k : Int) < (n2 : Int):=by omega
     have b3 : (i : Int) < (n : Int):=by omega
     replace hj:=Lib.hid hj
     replace hm:=Lib.hid hm
     clear hmi
     go_wp2
     go_region
     all_goals
      go_wp2
      refine ⟨⟨k + 1,os.set j (dg os j + m),(x.1 + 1,x.2),by omega,by go_num,by rw [← qbt];rfl,HT⟩,by simp [intOf];omega⟩
    ·have hkn : k = n2:=by omega
     subst hkn
     have HT : Hid (qaz D l l2 os (i + 1) 0):=Lib.hid (qaz.row (by rw [HN2.out];exact HP.out))
     go_wp2
     refine ⟨⟨i + 1,os,x,by omega,by go_num,rfl,HT⟩,by simp [intOf];omega⟩
  ·have hin : i = n:=by omega
   subst hin
   have HT:=Lib.hid (HD.out os HP.out)
   go_wp2_with (go_at_call 94;with_reducible refine (qgt w os x _ HT.out).mono ?_;rintro e w' ⟨v,rfl,hv,hx⟩)
   go_ret
   exact ⟨_,rfl,hv,hx⟩

theorem in_list (f : Nat→UInt8) : ∃ l : List UInt8,l.length = 32∧bsum (lb l) 32 = V f∧(∀ (w : World) (t : TypeId),Rd (w.alloc (.cells (qab f) t)) (some ⟨w.heap.size,0,none⟩) (l.map bv)):=by
 refine ⟨(List.range 32).map f,by simp,?_,fun w t=>?_⟩
 ·have key : ∀ n,n ≤ 32→bsum (lb ((List.range 32).map f)) n = bsum f n:=by
   intro n
   induction n with
   | zero=>intro _;rfl
   | succ n ih =>
    intro h
    simp only [bsum]
    rw [ih (by omega),lb_lt (by simp;omega)]
    simp
  exact key 32 (by decide)
 ·refine Rd.of_cells fun j u hu=>?_
  rw [show (Addr.add ⟨w.heap.size,0,none⟩ j) = ⟨w.heap.size,j,none⟩ from by unfold Addr.add;split <;> simp_all]
  have hj : j < 32:=by
   rcases Nat.lt_or_ge j 32 with h | h
   ·exact h
   ·rw [List.getElem?_eq_none (by simpa using h)] at hu
    cases hu
  rw [World.cell?_alloc_at _ _ _ _ rfl,qbp f hj,← hu]
  simp [hj,bv]
theorem V_lt (f : Nat→UInt8) : V f < 16777216 ^ 11:=Nat.lt_of_lt_of_le (qeu f 32) (by decide)
theorem rin_any (f : Nat→UInt8) (w : World) :
  Calls Tryz.prog 65 #[.agg (qab f)] w fun e w'=>∃ v,e = .returned v∧Num w' v (V f % (2 ^ 255 - 19)) 11∧Ext w w':=by
 obtain ⟨l,h1,h2,h3⟩:=in_list f
 have h3:=h3 w 22
 have hof:=qko (some ⟨w.heap.size,0,none⟩) 32 32 l _ h1 h3 (by decide)
 rw [h2] at hof
 go_enter Tryz.func65,Tryz.ntmps65
 go_wp2_with (first
  | (go_at_call 31;with_reducible refine hof.mono ?_;rintro e w' ⟨v,rfl,hv,hx⟩)
  | (go_at_call 95;with_reducible refine (mod_any _ v (V f) (hv.short (V_lt f))).mono ?_;rintro e w' ⟨v2,rfl,hv2,hx2⟩))
 go_ret
 exact ⟨_,rfl,hv2,((qaa _ _).trans hx).trans hx2⟩
end Go.Proofs.YtgeihelkkhjjaaaGreatDoor
end
section
namespace Go.Cv.Dig
theorem pow_odd {p o a n N : Nat} (h : (o * a ^ n) % p = N) (hn : n % 2 = 1) : ((o * a) % p * ((a * a) % p) ^ (n / 2)) % p = N:=by
 have e : n = n / 2 * 2 + 1:=by omega
 rw [Nat.mul_mod,Nat.pow_mod,Nat.mod_mod,Nat.mod_mod,← Nat.pow_mod,← Nat.mul_mod,← h]
 have e2 : a ^ n = a * (a * a) ^ (n / 2):=by
  conv=>lhs;rw [e]
  rw [Nat.pow_succ,Nat.mul_comm (n / 2) 2,Nat.pow_mul,Nat.pow_two,Nat.mul_comm]
 rw [e2,Nat.mul_assoc]
theorem pow_even {p o a n N : Nat} (h : (o * a ^ n) % p = N) (hn : ¬ n % 2 = 1) : (o * ((a * a) % p) ^ (n / 2)) % p = N:=by
 have e : n = n / 2 * 2:=by omega
 rw [Nat.mul_mod,Nat.pow_mod,Nat.mod_mod,← Nat.pow_mod,← Nat.mul_mod,← h]
 have e2 : a ^ n = (a * a) ^ (n / 2):=by
  conv=>lhs;rw [e]
  rw [Nat.mul_comm (n / 2) 2,Nat.pow_mul,Nat.pow_two]
 rw [e2]
theorem Canon.pos_len {l : List Nat} (h : Canon l) (hn : 0 < l.length) : 0 < dval l:=by
 have:=h.lb (List.ne_nil_of_length_pos hn)
 have h2 : 0 < 16777216 ^ (l.length - 1):=Nat.pow_pos (by decide)
 omega
end Go.Cv.Dig
namespace Go.Proofs.YtgeihelkkhjjaaaGreatDoor
open Go.RowKit Go.Cv Go.Cv.Dig
theorem Num.mono {w : World} {v : Value} {x N M : Nat} (h : Num w v x N) (hM : N ≤ M) : Num w v x M:=by
 obtain ⟨A,n,c,l,rfl,hn,hc,hr,hl,hx,hN⟩:=h
 exact Num.mk hn hc hr hl hx (Nat.le_trans hN hM)
theorem qjt (d : Nat) (h0 : d ≠ 0) (hd : d < 16777216) (w : World) (t : TypeId) : Num (w.alloc (.cells #[.int .i64 (d : Int)] t)) (.slice (some ⟨w.heap.size,0,none⟩) 1 1) d 11 :=
 Num.mk (l:=[d]) rfl (Nat.le_refl _) (qbk w (iv d) t) ⟨Canon.of_snoc hd,by simpa using h0⟩ (qnn d) (by decide)
theorem ql4 (w : World) (t : TypeId) : Num (w.alloc (.cells #[.int .i64 1] t)) (.slice (some ⟨w.heap.size,0,none⟩) 1 1) 1 11:=qjt 1 (by decide) (by decide) w t
theorem num_2 (w : World) (t : TypeId) : Num (w.alloc (.cells #[.int .i64 2] t)) (.slice (some ⟨w.heap.size,0,none⟩) 1 1) 2 11:=qjt 2 (by decide) (by decide) w t
theorem num_3 (w : World) (t : TypeId) : Num (w.alloc (.cells #[.int .i64 3] t)) (.slice (some ⟨w.heap.size,0,none⟩) 1 1) 3 11:=qjt 3 (by decide) (by decide) w t

theorem qec (w : World) (va vn : Value) (a y P : Nat) (hP : P = 2 ^ 255 - 19) (ha : Num w va a 11) (hn : Num w vn y 11) :
  Calls Tryz.prog 96 #[va,vn] w fun e w'=>∃ v,e = .returned v∧Num w' v (a ^ y % P) 11∧Ext w w':=by
 obtain ⟨N,hN⟩ : ∃ N,N = a ^ y % P:=⟨_,rfl⟩
 rw [← hN]
 replace hN:=Lib.hid hN
 have HA:=Lib.hid ha
 have HY:=Lib.hid hn
 obtain ⟨A,n1,c1,l1,rfl,-⟩:=ha
 obtain ⟨B,n2,c2,l2,rfl,-⟩:=hn
 obtain ⟨R,hR⟩ : ∃ R : World→Value→Value→Value→Nat→Prop,R = fun wr v0 v1 v5 n=>∃ a' o,Num wr v0 a' 11∧Num wr v1 n 11∧Num wr v5 o 11∧Ext w wr∧o < P∧(o * a' ^ n) % P = N:=⟨_,rfl⟩
 replace hR:=Lib.hid hR
 have hM : ∀ (w : World) (v1 v2 : Value) (x y : Nat),Num w v1 x 11→Num w v2 y 11→Calls Tryz.prog 67 #[v1,v2] w fun e w'=>∃ v,e = .returned v∧Num w' v ((x * y) % P) 11∧Ext w w':=by
  rw [hP];exact qji
 have hP2 : Hid (1 < P):=Lib.hid (by rw [hP];decide)
 clear hP
 go_enter Tryz.func96,Tryz.ntmps96
 go_wp2
 go_loopw [0,1,5] (fun v0 v1 v5 wr=>∃ n,R wr v0 v1 v5 n) (fun v0 v1 v5 wr=>qeg (R wr v0 v1 v5))
 case atStart=>exact ⟨y,by rw [hR.out];exact ⟨a,1,HA.out.ext (qaa _ _),HY.out.ext (qaa _ _),ql4 _ _,qaa _ _,hP2.out,by rw [Nat.one_mul];exact hN.out.symm⟩⟩
 case round =>
  have hsp:=qf3 hrel
  clear hrel
  obtain ⟨M,hx⟩ : ∃ x,x = qeg (R wr u0 u1 u5):=⟨_,rfl⟩
  rw [← hx,hR.out] at hsp
  replace hx:=Lib.hid hx
  obtain ⟨a',o,h0,h1,h5,hE,ho,hpow⟩:=hsp
  replace hpow:=Lib.hid hpow
  obtain ⟨C,m,c,l,rfl,hm,hc,hr,hcan,hval,hle⟩:=h1
  have HM:=Lib.hid hm
  have HC:=Lib.hid hcan
  have HV:=Lib.hid hval
  clear hm hcan hval
  by_cases h00 : m = 0
  ·subst h00
   have h6 : Hid (M = 0):=Lib.hid (by
    have : l = []:=List.eq_nil_of_length_eq_zero HM.out
    rw [← HV.out,this];rfl)
   have h7 : Hid (o = N):=Lib.hid (by
    have:=hpow.out
    rw [h6.out,Nat.pow_zero,Nat.mul_one,Nat.mod_eq_of_lt ho] at this
    exact this)
   go_wp2
   go_ret
   exact ⟨_,rfl,h7.out ▸ h5,hE⟩
  ·have hm' : (0 : Int) < (m : Int):=by omega
   have hpos : 0 < M:=by rw [← HV.out];exact HC.out.pos_len (by rw [HM.out];omega)
   have hhalf:=qnj C m c l wr HM.out HC.out hr (by omega)
   rw [HV.out] at hhalf
   by_cases hodd : M % 2 = 1
   ·rw [show (M % 2 == 1) = true from by simp [hodd]] at hhalf
    have hP1:=Lib.hid (pow_odd hpow.out hodd)
    go_wp2_with (first
     | (go_at_call 105;with_reducible refine hhalf.mono ?_;rintro e w1 ⟨v1,rfl,hv1,hx1⟩)
     | (go_at_call 67;with_reducible refine (hM _ _ _ o a' (h5.ext hx1) (h0.ext hx1)).mono ?_;rintro e w2 ⟨v2,rfl,hv2,hx2⟩)
     | (go_at_call 67;with_reducible refine (hM _ _ _ a' a' (h0.ext (hx1.trans hx2)) (h0.ext (hx1.trans hx2))).mono ?_;rintro e w3 ⟨v3,rfl,hv3,hx3⟩))
    refine qdd (n:=M / 2) ?_ (by omega) hx.out
    rw [hR.out]
    exact ⟨_,_,hv3,(hv1.ext (hx2.trans hx3)).mono (by omega),hv2.ext hx3,hE.trans (hx1.trans (hx2.trans hx3)),Nat.mod_lt _ (by have:=hP2.out;omega),hP1.out⟩
   ·rw [show (M % 2 == 1) = false from by simp [hodd]] at hhalf
    have hP1:=Lib.hid (pow_even hpow.out hodd)
    go_wp2_with (first
     | (go_at_call 105;with_reducible refine hhalf.mono ?_;rintro e w1 ⟨v1,rfl,hv1,hx1⟩)
     | (go_at_call 67;with_reducible refine (hM _ _ _ a' a' (h0.ext hx1) (h0.ext hx1)).mono ?_;rintro e w3 ⟨v3,rfl,hv3,hx3⟩))
    refine qdd (n:=M / 2) ?_ (by omega) hx.out
    rw [hR.out]
    exact ⟨_,_,hv3,(hv1.ext hx3).mono (by omega),h5.ext (hx1.trans hx3),hE.trans (hx1.trans hx3),ho,hP1.out⟩
end Go.Proofs.YtgeihelkkhjjaaaGreatDoor
end
section
namespace Go.Cv.Dig
theorem dval_par (l : List Nat) : dval l % 2 = dg l 0 % 2:=by
 cases l with
 | nil=>rfl
 | cons d l =>
  have e : dg (d :: l) 0 = d:=by simp [dg]
  rw [e];simp only [dval];omega
end Go.Cv.Dig
namespace Go.Proofs.YtgeihelkkhjjaaaGreatDoor
open Go.RowKit Go.Cv Go.Cv.Dig
theorem p_num (w : World) : Calls Tryz.prog 59 #[] w fun e w'=>∃ v,e = .returned v∧Num w' v (2 ^ 255 - 19) 11∧Ext w w':=by
 refine (p_new w).mono ?_
 rintro e w' ⟨rfl,h,hx⟩
 refine ⟨_,rfl,Num.mk (l:=pdig) rfl (Nat.le_refl _) ?_ qee qfh (by decide),hx⟩
 refine Rd.of_cells fun j u hu=>?_
 have hj : j < 11:=by have:=(List.getElem?_eq_some_iff.1 hu).1;simpa [pdig] using this
 rw [show (Addr.add ⟨w.heap.size,0,none⟩ j) = ⟨w.heap.size,j,none⟩ from by unfold Addr.add;split <;> simp_all]
 rw [h j hj,← hu]
 have hj2 : j < pdig.length:=hj
 rw [List.getElem?_map,List.getElem?_eq_getElem hj2,qdw hj2];rfl
theorem qfj (w : World) (v1 v2 : Value) (x y : Nat) (h1 : Num w v1 x 11) (h2 : Num w v2 y 11) (hle : y ≤ x) :
  Calls Tryz.prog 80 #[v1,v2] w fun e w'=>∃ v,e = .returned v∧Num w' v (x - y) 11∧Ext w w':=by
 obtain ⟨A,n,c,l,rfl,hn,hc,hr,hcan,rfl,hl⟩:=h1
 obtain ⟨B,n2,c2,l2,rfl,hn2,hc2,hr2,hcan2,rfl,hl2⟩:=h2
 refine (qnc A B n n2 c c2 l l2 w hn hn2 hcan hcan2 hle hr hr2 (by omega) (by omega)).mono ?_
 rintro e w' ⟨v,rfl,hv,hx⟩
 exact ⟨v,rfl,hv.mono hl,hx⟩
theorem qer (w : World) (v1 v2 : Value) (x y : Nat) (h1 : Num w v1 x 11) (h2 : Num w v2 y 11) (hlt : x + y < 16777216 ^ 11) :
  Calls Tryz.prog 55 #[v1,v2] w fun e w'=>∃ v,e = .returned v∧Num w' v (x + y) 11∧Ext w w':=by
 obtain ⟨A,n,c,l,rfl,hn,hc,hr,hcan,rfl,hl⟩:=h1
 obtain ⟨B,n2,c2,l2,rfl,hn2,hc2,hr2,hcan2,rfl,hl2⟩:=h2
 refine (qm6 A B n n2 c c2 l l2 w hn hn2 hcan hcan2 hr hr2 (by omega) (by omega)).mono ?_
 rintro e w' ⟨v,rfl,hv,hx⟩
 exact ⟨v,rfl,hv.short hlt,hx⟩
theorem qdj (w : World) (v1 : Value) (x : Nat) (h1 : Num w v1 x 11) :
  Calls Tryz.prog 105 #[v1] w fun e w'=>∃ v b,e = .returned (.tuple #[v,.bool b])∧Num w' v (x / 2) 11∧Ext w w':=by
 obtain ⟨A,n,c,l,rfl,hn,hc,hr,hcan,rfl,hl⟩:=h1
 refine (qnj A n c l w hn hcan hr (by omega)).mono ?_
 rintro e w' ⟨v,rfl,hv,hx⟩
 exact ⟨v,_,rfl,hv.mono hl,hx⟩
theorem qd7 (w : World) (v1 v2 : Value) (x y : Nat) (h1 : Num w v1 x 11) (h2 : Num w v2 y 11) :
  Calls Tryz.prog 30 #[v1,v2] w fun e w'=>∃ c,e = .returned (.int .i64 c)∧(x = y→c = 0)∧(x ≠ y→c ≠ 0)∧Ext w w':=by
 obtain ⟨A,n,c,l,rfl,hn,hc,hr,hcan,rfl,hl⟩:=h1
 obtain ⟨B,n2,c2,l2,rfl,hn2,hc2,hr2,hcan2,rfl,hl2⟩:=h2
 refine (qmf A B n n2 c c2 l l2 w hn hn2 hcan hcan2 hr hr2 (by omega) (by omega)).mono ?_
 rintro e w' ⟨k,rfl,hk,hx⟩
 unfold qfm at hk
 exact ⟨k,rfl,by omega,by omega,hx⟩
theorem digit_num (w : World) (v1 : Value) (x : Nat) (h1 : Num w v1 x 11) :
  Calls Tryz.prog 79 #[v1,.int .i64 0] w fun e w'=>∃ d : Nat,e = .returned (iv d)∧d % 2 = x % 2∧d < 16777216∧w' = w:=by
 obtain ⟨A,n,c,l,rfl,hn,hc,hr,hcan,rfl,hl⟩:=h1
 refine (qi4 A n c l w hn hr (by omega)).mono ?_
 rintro e w' ⟨rfl,rfl⟩
 exact ⟨_,rfl,(dval_par l).symm,hcan.1.dg 0,rfl⟩
theorem ql3 (w : World) : Num w (.slice none 0 0) 0 11:=Num.mk (l:=[]) rfl (Nat.le_refl _) (fun k v h=>by simp at h) Canon.nil_ rfl (by decide)

theorem rinv_any (w : World) (va : Value) (a P : Nat) (hP : P = 2 ^ 255 - 19) (ha : Num w va a 11) :
  Calls Tryz.prog 66 #[va] w fun e w'=>∃ v,e = .returned v∧Num w' v (a ^ (P - 2) % P) 11∧Ext w w':=by
 have hp:=p_num
 rw [← hP] at hp
 have HP:=Lib.hid hP
 have hP2 : 2 ≤ P:=by rw [hP];decide
 clear hP
 go_enter Tryz.func66,Tryz.ntmps66
 go_wp2_with (first
  | (go_at_call 59;with_reducible refine (hp _).mono ?_;rintro e w1 ⟨v1,rfl,hv1,hx1⟩)
  | (go_at_call 80;with_reducible refine (qfj _ v1 _ P 2 (hv1.ext (qaa _ _)) (num_2 _ _) hP2).mono ?_;rintro e w2 ⟨v2,rfl,hv2,hx2⟩)
  | (go_at_call 96;with_reducible refine (qec _ va v2 a (P - 2) P HP.out (ha.ext (hx1.trans ((qaa _ _).trans hx2))) hv2).mono ?_;rintro e w3 ⟨v3,rfl,hv3,hx3⟩))
 go_ret
 exact ⟨_,rfl,hv3,hx1.trans ((qaa _ _).trans (hx2.trans hx3))⟩
end Go.Proofs.YtgeihelkkhjjaaaGreatDoor
end
section
namespace Go.Proofs.YtgeihelkkhjjaaaGreatDoor
open Go.RowKit Go.Cv Go.Cv.Dig
theorem qo7 {d r : Nat} (hd : d % 2 = r % 2) (hr : r % 2 = 1) : (d : Int).tmod 2 = 1:=by
 rw [show (d : Int).tmod 2 = ((d % 2 : Nat) : Int) from rfl,hd,hr];rfl
theorem qo8 {d r : Nat} (hd : d % 2 = r % 2) (hr : r % 2 = 0) : (d : Int).tmod 2 = 0:=by
 rw [show (d : Int).tmod 2 = ((d % 2 : Nat) : Int) from rfl,hd,hr];rfl

theorem qpr (w0 : World) (va : Value) (x P : Nat) (hP : P = 2 ^ 255 - 19) (ha : Num w0 va x 11) (r0 r : Nat)
  (h0 : r0 = x ^ ((P + 3) / 2 / 2 / 2) % P) (h1 : (r0 * r0) % P = x→r = r0) (h2 : (r0 * r0) % P ≠ x→r = (r0 * (2 ^ ((P - 1) / 2 / 2) % P)) % P) :
  Calls Tryz.prog 93 #[va] w0 fun e w'=>∃ v,e = .returned (.tuple #[v,.bool (decide ((r * r) % P = x))])∧((r * r) % P = x→Num w' v (if r % 2 = 1 then (0 + 2 * P - r) % P else r) 11)∧Ext w0 w':=by
 have hp:=p_num
 rw [← hP] at hp
 have HP:=Lib.hid hP
 have hM : ∀ (w : World) (v1 v2 : Value) (x y : Nat),Num w v1 x 11→Num w v2 y 11→Calls Tryz.prog 67 #[v1,v2] w fun e w'=>∃ v,e = .returned v∧Num w' v ((x * y) % P) 11∧Ext w w':=by
  rw [hP];exact qji
 have hS : ∀ (w : World) (v2 : Value) (y : Nat),Num w v2 y 11→y < P→Calls Tryz.prog 61 #[.slice none 0 0,v2] w fun e w'=>∃ v,e = .returned v∧Num w' v ((0 + 2 * P - y) % P) 11∧Ext w w':=by
  intro w v2 y h hy
  rw [hP] at hy ⊢
  exact qm2 w _ v2 0 y (ql3 w) h (by omega)
 have hP3 : Hid (P + 3 < 16777216 ^ 11∧1 ≤ P):=Lib.hid (by rw [hP];decide)
 have hrP : Hid (r < P):=Lib.hid (by
  have hpos : 0 < P:=by rw [hP];decide
  by_cases h : (r0 * r0) % P = x
  ·rw [h1 h,h0];exact Nat.mod_lt _ hpos
  ·rw [h2 h];exact Nat.mod_lt _ hpos)
 have H0:=Lib.hid h0
 have H1:=Lib.hid h1
 have H2:=Lib.hid h2
 clear h0 h1 h2 hP
 obtain ⟨q,hq⟩ : ∃ q,q = (if r % 2 = 1 then (0 + 2 * P - r) % P else r):=⟨_,rfl⟩
 rw [← hq]
 replace hq:=Lib.hid hq
 obtain ⟨kb,hkb⟩ : ∃ kb,kb = decide ((r * r) % P = x):=⟨_,rfl⟩
 rw [← hkb]
 replace hkb:=Lib.hid hkb
 obtain ⟨E,hE⟩ : ∃ E,E = (P + 3) / 2 / 2 / 2:=⟨_,rfl⟩
 rw [← hE] at H0
 replace hE:=Lib.hid hE
 go_enter Tryz.func93,Tryz.ntmps93
 go_wp2_with (first
  | (go_at_call 59;with_reducible refine (hp _).mono ?_;rintro e w1 ⟨v1,rfl,hv1,hx1⟩)
  | (go_at_call 55;with_reducible refine (qer _ v1 _ P 3 (hv1.ext (qaa _ _)) (num_3 _ _) hP3.out.1).mono ?_;rintro e w2 ⟨v2,rfl,hv2,hx2⟩))
 have hx02 : Ext w0 w2:=hx1.trans ((qaa _ _).trans hx2)
 clear hv1 hx1 hx2
 refine wp_loop_rounds 4 ?_
 rw [rounds_succ]
 go_wp2_with (go_at_call 105;with_reducible refine (qdj _ v2 _ hv2).mono ?_;rintro e w3 ⟨v3,b3,rfl,hv3,hx3⟩)
 rw [rounds_succ]
 go_wp2_with (go_at_call 105;with_reducible refine (qdj _ v3 _ hv3).mono ?_;rintro e w4 ⟨v4,b4,rfl,hv4,hx4⟩)
 rw [rounds_succ]
 go_wp2_with (go_at_call 105;with_reducible refine (qdj _ v4 _ hv4).mono ?_;rintro e w5 ⟨v5,b5,rfl,hv5,hx5⟩)
 rw [rounds_succ]
 have hx05 : Ext w0 w5:=hx02.trans (hx3.trans (hx4.trans hx5))
 rw [← hE.out] at hv5
 clear hv2 hv3 hv4 hx02 hx3 hx4 hx5
 go_upto_region 7 with (go_at_call 96;with_reducible refine (qec _ va v5 x E P HP.out (ha.ext hx05) hv5).mono ?_;rintro e w6 ⟨v6,rfl,hv6,hx6⟩)
 have hx06 : Ext w0 w6:=hx05.trans hx6
 rw [← H0.out] at hv6
 clear hv5 hx05 hx6
 by_cases hc : (r0 * r0) % P = x
 ·obtain rfl:=H1.out hc
  have hc1:=Lib.hid hc
  clear hc
  by_cases hk : (r * r) % P = x
  ·have hkt : kb = true:=by rw [hkb.out];exact decide_eq_true hk
   subst hkt
   replace hk:=Lib.hid hk
   by_cases hodd : r % 2 = 1
   ·go_wp2_with (first
     | (go_at_call 67;with_reducible refine (hM _ v6 v6 r r hv6 hv6).mono ?_;rintro e w7 ⟨v7,rfl,hv7,hx7⟩)
     | (go_at_call 30;with_reducible refine (qd7 _ v7 va _ x hv7 (ha.ext (hx06.trans hx7))).mono ?_;rintro e w8 ⟨c8,rfl,hc8,-,hx8⟩;have hc9:=hc8 hc1.out;subst hc9;clear hc8;have hvr:=hv6.ext (hx7.trans hx8);have hxr:=hx06.trans (hx7.trans hx8))
     | (go_at_call 67;with_reducible refine (hM _ v6 v6 r r hvr hvr).mono ?_;rintro e w20 ⟨v20,rfl,hv20,hx20⟩)
     | (go_at_call 30;with_reducible refine (qd7 _ v20 va _ x hv20 (ha.ext (hxr.trans hx20))).mono ?_;rintro e w21 ⟨c21,rfl,hc21,-,hx21⟩;have hc22:=hc21 hk.out;subst hc22;clear hc21)
     | (go_at_call 79;with_reducible refine (digit_num _ v6 r (hvr.ext (hx20.trans hx21))).mono ?_;rintro e w22 ⟨d,rfl,hd,hdl,rfl⟩;have t1 : (d : Int).tmod 2 = 1:=qo7 hd hodd)
     | (go_at_call 61;with_reducible refine (hS _ v6 r (hvr.ext (hx20.trans hx21)) hrP.out).mono ?_;rintro e w23 ⟨v23,rfl,hv23,hx23⟩))
    go_ret2
    exact ⟨_,rfl,fun _=>by rw [hq.out,if_pos hodd];exact hv23,hxr.trans (hx20.trans (hx21.trans hx23))⟩
   ·have hod0 : r % 2 = 0:=by omega
    go_wp2_with (first
     | (go_at_call 67;with_reducible refine (hM _ v6 v6 r r hv6 hv6).mono ?_;rintro e w7 ⟨v7,rfl,hv7,hx7⟩)
     | (go_at_call 30;with_reducible refine (qd7 _ v7 va _ x hv7 (ha.ext (hx06.trans hx7))).mono ?_;rintro e w8 ⟨c8,rfl,hc8,-,hx8⟩;have hc9:=hc8 hc1.out;subst hc9;clear hc8;have hvr:=hv6.ext (hx7.trans hx8);have hxr:=hx06.trans (hx7.trans hx8))
     | (go_at_call 67;with_reducible refine (hM _ v6 v6 r r hvr hvr).mono ?_;rintro e w20 ⟨v20,rfl,hv20,hx20⟩)
     | (go_at_call 30;with_reducible refine (qd7 _ v20 va _ x hv20 (ha.ext (hxr.trans hx20))).mono ?_;rintro e w21 ⟨c21,rfl,hc21,-,hx21⟩;have hc22:=hc21 hk.out;subst hc22;clear hc21)
     | (go_at_call 79;with_reducible refine (digit_num _ v6 r (hvr.ext (hx20.trans hx21))).mono ?_;rintro e w22 ⟨d,rfl,hd,hdl,rfl⟩;have t1 : (d : Int).tmod 2 = 0:=qo8 hd hod0))
    go_ret2
    exact ⟨_,rfl,fun _=>by rw [hq.out,if_neg hodd];exact hvr.ext (hx20.trans hx21),hxr.trans (hx20.trans hx21)⟩
  ·exact absurd hc1.out hk
 ·have hr:=Lib.hid (H2.out hc)
  have hc1:=Lib.hid hc
  clear hc
  by_cases hk : (r * r) % P = x
  ·have hkt : kb = true:=by rw [hkb.out];exact decide_eq_true hk
   subst hkt
   replace hk:=Lib.hid hk
   by_cases hodd : r % 2 = 1
   ·go_wp2_with (first
     | (go_at_call 67;with_reducible refine (hM _ v6 v6 r0 r0 hv6 hv6).mono ?_;rintro e w7 ⟨v7,rfl,hv7,hx7⟩)
     | (go_at_call 30;with_reducible refine (qd7 _ v7 va _ x hv7 (ha.ext (hx06.trans hx7))).mono ?_;rintro e w8 ⟨c8,rfl,-,hc8,hx8⟩;have hc9:=hc8 hc1.out;clear hc8)
     | (go_at_call 59;with_reducible refine (hp _).mono ?_;rintro e w9 ⟨v9,rfl,hv9,hx9⟩)
     | (go_at_call 80;with_reducible refine (qfj _ v9 _ P 1 (hv9.ext (qaa _ _)) (ql4 _ _) hP3.out.2).mono ?_;rintro e w10 ⟨v10,rfl,hv10,hx10⟩)
     | (go_at_call 105;with_reducible refine (qdj _ v10 _ hv10).mono ?_;rintro e w11 ⟨v11,b11,rfl,hv11,hx11⟩)
     | (go_at_call 105;with_reducible refine (qdj _ v11 _ hv11).mono ?_;rintro e w12 ⟨v12,b12,rfl,hv12,hx12⟩)
     | (go_at_call 96;with_reducible refine (qec _ _ v12 2 _ P HP.out (num_2 _ _) (hv12.ext (qaa _ _))).mono ?_;rintro e w13 ⟨v13,rfl,hv13,hx13⟩)
     | (go_at_call 67;with_reducible refine (hM _ v6 v13 r0 _ (hv6.ext (hx7.trans (hx8.trans (hx9.trans ((qaa _ _).trans (hx10.trans (hx11.trans (hx12.trans ((qaa _ _).trans hx13))))))))) hv13).mono ?_;rintro e w14 ⟨v14,rfl,hv14,hx14⟩;have hvr:=hr.out ▸ hv14;have hxr:=hx06.trans (hx7.trans (hx8.trans (hx9.trans ((qaa _ _).trans (hx10.trans (hx11.trans (hx12.trans ((qaa _ _).trans (hx13.trans hx14))))))))))
     | (go_at_call 67;with_reducible refine (hM _ v14 v14 r r hvr hvr).mono ?_;rintro e w20 ⟨v20,rfl,hv20,hx20⟩)
     | (go_at_call 30;with_reducible refine (qd7 _ v20 va _ x hv20 (ha.ext (hxr.trans hx20))).mono ?_;rintro e w21 ⟨c21,rfl,hc21,-,hx21⟩;have hc22:=hc21 hk.out;subst hc22;clear hc21)
     | (go_at_call 79;with_reducible refine (digit_num _ v14 r (hvr.ext (hx20.trans hx21))).mono ?_;rintro e w22 ⟨d,rfl,hd,hdl,rfl⟩;have t1 : (d : Int).tmod 2 = 1:=qo7 hd hodd)
     | (go_at_call 61;with_reducible refine (hS _ v14 r (hvr.ext (hx20.trans hx21)) hrP.out).mono ?_;rintro e w23 ⟨v23,rfl,hv23,hx23⟩))
    go_ret2
    exact ⟨_,rfl,fun _=>by rw [hq.out,if_pos hodd];exact hv23,hxr.trans (hx20.trans (hx21.trans hx23))⟩
   ·have hod0 : r % 2 = 0:=by omega
    go_wp2_with (first
     | (go_at_call 67;with_reducible refine (hM _ v6 v6 r0 r0 hv6 hv6).mono ?_;rintro e w7 ⟨v7,rfl,hv7,hx7⟩)
     | (go_at_call 30;with_reducible refine (qd7 _ v7 va _ x hv7 (ha.ext (hx06.trans hx7))).mono ?_;rintro e w8 ⟨c8,rfl,-,hc8,hx8⟩;have hc9:=hc8 hc1.out;clear hc8)
     | (go_at_call 59;with_reducible refine (hp _).mono ?_;rintro e w9 ⟨v9,rfl,hv9,hx9⟩)
     | (go_at_call 80;with_reducible refine (qfj _ v9 _ P 1 (hv9.ext (qaa _ _)) (ql4 _ _) hP3.out.2).mono ?_;rintro e w10 ⟨v10,rfl,hv10,hx10⟩)
     | (go_at_call 105;with_reducible refine (qdj _ v10 _ hv10).mono ?_;rintro e w11 ⟨v11,b11,rfl,hv11,hx11⟩)
     | (go_at_call 105;with_reducible refine (qdj _ v11 _ hv11).mono ?_;rintro e w12 ⟨v12,b12,rfl,hv12,hx12⟩)
     | (go_at_call 96;with_reducible refine (qec _ _ v12 2 _ P HP.out (num_2 _ _) (hv12.ext (qaa _ _))).mono ?_;rintro e w13 ⟨v13,rfl,hv13,hx13⟩)
     | (go_at_call 67;with_reducible refine (hM _ v6 v13 r0 _ (hv6.ext (hx7.trans (hx8.trans (hx9.trans ((qaa _ _).trans (hx10.trans (hx11.trans (hx12.trans ((qaa _ _).trans hx13))))))))) hv13).mono ?_;rintro e w14 ⟨v14,rfl,hv14,hx14⟩;have hvr:=hr.out ▸ hv14;have hxr:=hx06.trans (hx7.trans (hx8.trans (hx9.trans ((qaa _ _).trans (hx10.trans (hx11.trans (hx12.trans ((qaa _ _).trans (hx13.trans hx14))))))))))
     | (go_at_call 67;with_reducible refine (hM _ v14 v14 r r hvr hvr).mono ?_;rintro e w20 ⟨v20,rfl,hv20,hx20⟩)
     | (go_at_call 30;with_reducible refine (qd7 _ v20 va _ x hv20 (ha.ext (hxr.trans hx20))).mono ?_;rintro e w21 ⟨c21,rfl,hc21,-,hx21⟩;have hc22:=hc21 hk.out;subst hc22;clear hc21)
     | (go_at_call 79;with_reducible refine (digit_num _ v14 r (hvr.ext (hx20.trans hx21))).mono ?_;rintro e w22 ⟨d,rfl,hd,hdl,rfl⟩;have t1 : (d : Int).tmod 2 = 0:=qo8 hd hod0))
    go_ret2
    exact ⟨_,rfl,fun _=>by rw [hq.out,if_neg hodd];exact hvr.ext (hx20.trans hx21),hxr.trans (hx20.trans hx21)⟩
  ·have hkt : kb = false:=by rw [hkb.out];exact decide_eq_false hk
   subst hkt
   replace hk:=Lib.hid hk
   go_wp2_with (first
    | (go_at_call 67;with_reducible refine (hM _ v6 v6 r0 r0 hv6 hv6).mono ?_;rintro e w7 ⟨v7,rfl,hv7,hx7⟩)
    | (go_at_call 30;with_reducible refine (qd7 _ v7 va _ x hv7 (ha.ext (hx06.trans hx7))).mono ?_;rintro e w8 ⟨c8,rfl,-,hc8,hx8⟩;have hc9:=hc8 hc1.out;clear hc8)
    | (go_at_call 59;with_reducible refine (hp _).mono ?_;rintro e w9 ⟨v9,rfl,hv9,hx9⟩)
    | (go_at_call 80;with_reducible refine (qfj _ v9 _ P 1 (hv9.ext (qaa _ _)) (ql4 _ _) hP3.out.2).mono ?_;rintro e w10 ⟨v10,rfl,hv10,hx10⟩)
    | (go_at_call 105;with_reducible refine (qdj _ v10 _ hv10).mono ?_;rintro e w11 ⟨v11,b11,rfl,hv11,hx11⟩)
    | (go_at_call 105;with_reducible refine (qdj _ v11 _ hv11).mono ?_;rintro e w12 ⟨v12,b12,rfl,hv12,hx12⟩)
    | (go_at_call 96;with_reducible refine (qec _ _ v12 2 _ P HP.out (num_2 _ _) (hv12.ext (qaa _ _))).mono ?_;rintro e w13 ⟨v13,rfl,hv13,hx13⟩)
    | (go_at_call 67;with_reducible refine (hM _ v6 v13 r0 _ (hv6.ext (hx7.trans (hx8.trans (hx9.trans ((qaa _ _).trans (hx10.trans (hx11.trans (hx12.trans ((qaa _ _).trans hx13))))))))) hv13).mono ?_;rintro e w14 ⟨v14,rfl,hv14,hx14⟩;have hvr:=hr.out ▸ hv14;have hxr:=hx06.trans (hx7.trans (hx8.trans (hx9.trans ((qaa _ _).trans (hx10.trans (hx11.trans (hx12.trans ((qaa _ _).trans (hx13.trans hx14))))))))))
    | (go_at_call 67;with_reducible refine (hM _ v14 v14 r r hvr hvr).mono ?_;rintro e w20 ⟨v20,rfl,hv20,hx20⟩)
    | (go_at_call 30;with_reducible refine (qd7 _ v20 va _ x hv20 (ha.ext (hxr.trans hx20))).mono ?_;rintro e w21 ⟨c21,rfl,-,hc21,hx21⟩;have hc22:=hc21 hk.out;clear hc21))
   all_goals
    go_ret2
    exact ⟨_,rfl,fun h=>absurd h hk.out,hxr.trans (hx20.trans hx21)⟩
theorem qk9 (w : World) (v : Value) (x : Nat) (h : Num w v x 11) :
  Calls Tryz.prog 50 #[v] w fun e w'=>e = .returned (.agg (qab (nb x)))∧Ext w w':=by
 obtain ⟨A,n,c,l,rfl,hn,hc,hr,hcan,rfl,hl⟩:=h
 exact qrq A n c l w hn hcan.1 hr (by omega)

end Go.Proofs.YtgeihelkkhjjaaaGreatDoor
end
end
section
section
namespace Go.Cv
open Go.RowKit Go.Cv.Dig
def lowL : List UInt8:=[237,211,245,92,26,99,18,88,214,156,247,162,222,249,222,20]
def lowF (i : Nat) : Nat→UInt8:=fun k=>if k < i then lowL.getD k 0 else 0
theorem lowF_val : V (updb (lowF 16) 31 16) = ordN:=by decide
theorem qqp : lowF 0 = fun _=>0:=by funext k;simp [lowF]
theorem qqq (i : Nat) : updb (lowF i) i (lowL.getD i 0) = lowF (i + 1):=by
 funext k
 unfold updb lowF
 by_cases h : k = i
 ·subst h;simp
 ·rw [if_neg h]
  by_cases h2 : k < i
  ·rw [if_pos h2,if_pos (by omega)]
  ·rw [if_neg h2,if_neg (by omega)]
end Go.Cv
namespace Go.Proofs.YtgeihelkkhjjaaaGreatDoor
open Go.RowKit Go.Cv Go.Cv.Dig
theorem qkn (b : Nat) (f : Nat→UInt8) (w : World) (hR : RV w b 22 (fun u=>u = .agg (qab f))) :
  Calls Tryz.prog 31 #[.slice (some ⟨b,0,none⟩) 32 32] w fun e w'=>∃ v,e = .returned v∧Num w' v (V f) 11∧Ext w w':=by
 refine (qko _ 32 32 (qao f) w (qau f) (qh5 hR) (by decide)).mono ?_
 rintro e w' ⟨v,rfl,hv,hx⟩
 rw [show bsum (lb (qao f)) 32 = V f from qg5 f] at hv
 exact ⟨v,rfl,hv.short (Nat.lt_of_lt_of_le (qeu f 32) (by decide)),hx⟩
theorem qgv (w : World) :
  Calls Tryz.prog 32 #[] w fun e w'=>∃ v,e = .returned v∧Num w' v ordN 11∧Ext w w':=by
 go_enter Tryz.func32,Tryz.ntmps32
 go_upto_region 4 with fail
 obtain ⟨W0,hW0⟩ : ∃ W0,W0 = w.alloc (.cells (qab fun _=>0) 22):=⟨_,rfl⟩
 obtain ⟨b,hb⟩ : ∃ b,b = w.heap.size:=⟨_,rfl⟩
 rw [← hW0,← hb]
 have s0 : W0.heap.size = b + 1:=by rw [hW0,hb];exact Array.size_push _
 have hx0 : Ext w W0:=by rw [hW0];exact qaa _ _
 have hR0 : RV W0 b 22 (fun u=>u = .agg (qab (lowF 0))):=by rw [hW0,hb,qqp];exact RV.newB _ _ _
 have hbw : w.heap.size ≤ b:=by omega
 clear hW0 hb
 obtain ⟨W,hW⟩ : ∃ W,W = W0.alloc (.cells #[.int .u8 237,.int .u8 211,.int .u8 245,.int .u8 92,.int .u8 26,.int .u8 99,.int .u8 18,.int .u8 88,.int .u8 214,.int .u8 156,.int .u8 247,.int .u8 162,.int .u8 222,.int .u8 249,.int .u8 222,.int .u8 20] 5):=⟨_,rfl⟩
 obtain ⟨bl,hbl⟩ : ∃ bl,bl = b + 1:=⟨_,rfl⟩
 rw [← hW,← hbl]
 have hRl : Row W bl 5 (lowL.map bv):=by rw [hW,hbl,← s0];exact Row.alloc W0 (lowL.map bv) _
 have hx1 : Ext W0 W:=by rw [hW];exact qaa _ _
 have hne : bl ≠ b:=by omega
 have hR1:=hR0.ext hx1
 have hx:=hx0.trans hx1
 clear hW hbl s0 hx0 hx1 hR0
 go_loopw [3] (fun v3 wr=>∃ i : Nat,i ≤ 16∧v3 = .int .i64 i∧RV wr b 22 (fun u=>u = .agg (qab (lowF i)))∧Keep [b] W wr) (fun v3 _=>16 - (intOf v3).toNat)
 case atStart=>exact ⟨0,by decide,rfl,hR1,Keep.refl _ _⟩
 case round =>
  clear hR1
  obtain ⟨i,hi,rfl,hR,hK⟩:=hrel
  have hRl2:=hRl.keep hK (by simpa using hne)
  by_cases hi2 : i < 16
  ·have hiI : (i : Int) < 16:=by omega
   have hi0 : 0 ≤ (i : Int):=by omega
   have hi32 : (i : Int) < 32:=by omega
   have c1 : wr.cell? ⟨bl,i,none⟩ = some (.int .u8 (n8 (lowL.getD i 0))):=by
    rw [hRl2.cell (i:=i) (by rw [List.length_map];exact hi2),List.getElem_map]
    have : lowL.getD i 0 = lowL[i]'(show i < lowL.length from hi2):=by simp [List.getD,List.getElem?_eq_getElem (show i < lowL.length from hi2)]
    rw [this]
   have hfr:=hR.fro i
   have c2:=hR.byte (i:=i) (by omega)
   have hR2:=hR.set i (lowL.getD i 0)
   rw [qqq] at hR2
   have hK2:=hK.same (Keep.setCell wr ⟨b,i,none⟩ (.int .u8 (n8 (lowL.getD i 0))))
   have hms : 16 - (i + 1) < 16 - i:=by omega
   clear hR hK hRl2 hRl hne
   generalize lowL.getD i 0 = y at *
   go_wp2
   all_goals
    exact ⟨⟨i + 1,hi2,by go_num,hR2,⟨hK2.os,hK2.tape,hK2.output,hK2.size,hK2.keep⟩⟩,by simpa [intOf] using hms⟩
  ·obtain rfl : i = 16:=by omega
   have hK2:=hK.same (Keep.setCell wr ⟨b,31,none⟩ (.int .u8 16))
   have hR2 : RV (wr.setCell ⟨b,31,none⟩ (.int .u8 16)) b 22 (fun u=>u = .agg (qab (updb (lowF 16) 31 16))):=hR.set 31 16
   have hxw:=Ext.keep_ hx hK2 (by simpa using hbw)
   have hfr:=hR.fro 31
   have c2:=hR.byte (i:=31) (by omega)
   clear hR hK hRl2 hRl hne hK2
   go_wp2_with (first
    | (go_at_call 31;((with_reducible refine (qkn b _ _ hR2).mono ?_);rintro e w' ⟨v,rfl,hv,hx2⟩)))
   rw [lowF_val] at hv
   refine bodyPost_ret_by (by simp [results,Tryz.results32,go_sem];rfl) rfl ?_
   exact ⟨v,rfl,hv,hxw.trans hx2⟩
end Go.Proofs.YtgeihelkkhjjaaaGreatDoor
end
section
namespace Go.Cv.Dig
theorem qno (l : List Nat) (h : qa4 l) : ∀ (q : Nat),dval l / 16777216 ^ q = dval (l.drop q)
 | 0=>by simp
 | q + 1=>by
  rw [Nat.pow_succ,← Nat.div_div_eq_div_mul,qno l h q,← List.drop_drop]
  have hs : qa4 (l.drop q):=fun d hd=>h d (List.mem_of_mem_drop hd)
  generalize l.drop q = m at *
  cases m with
  | nil=>simp [dval]
  | cons d m =>
   have:=hs d (by simp)
   simp only [dval,List.drop_succ_cons,List.drop_zero]
   omega
theorem dval_bit {l : List Nat} (h : qa4 l) {q t : Nat} (ht : t < 24) (hq : q < l.length) : dval l / 2 ^ (24 * q + t) % 2 = l[q] / 2 ^ t % 2:=by
 rw [Nat.pow_add,← Nat.div_div_eq_div_mul,Nat.pow_mul,show (2 : Nat) ^ 24 = 16777216 from rfl,qno l h q,List.drop_eq_getElem_cons hq]
 simp only [dval]
 rw [show 16777216 * dval (l.drop (q + 1)) = 2 ^ t * (2 * (2 ^ (23 - t) * dval (l.drop (q + 1)))) from by
  rw [← Nat.mul_assoc 2,← Nat.pow_succ',← Nat.mul_assoc,← Nat.pow_add,show t + (23 - t).succ = 24 from by omega],Nat.add_mul_div_left _ _ (Nat.two_pow_pos t),Nat.add_mul_mod_self_left]
theorem qpu {N L r b : Nat} (hr : r = N % L) (hb : b ≤ 1) (hL : 1 < L) (h : L ≤ r + r + b) : r + r + b - L = (2 * N + b) % L:=by
 have h1 : r < L:=by rw [hr];exact Nat.mod_lt _ (by omega)
 have h2 : (2 * N + b) % L = (r + r + b) % L:=by
  rw [hr,← Nat.two_mul,Nat.add_mod,Nat.mul_mod,Nat.add_mod (2 * (N % L)),Nat.mul_mod 2 (N % L),Nat.mod_mod]
 rw [h2,Nat.mod_eq_sub_mod h,Nat.mod_eq_of_lt (by omega)]
theorem qn8 {N L r b : Nat} (hr : r = N % L) (hb : b ≤ 1) (hL : 1 < L) (h : ¬ L ≤ r + r + b) : r + r + b = (2 * N + b) % L:=by
 have h2 : (2 * N + b) % L = (r + r + b) % L:=by
  rw [hr,← Nat.two_mul,Nat.add_mod,Nat.mul_mod,Nat.add_mod (2 * (N % L)),Nat.mul_mod 2 (N % L),Nat.mod_mod]
 rw [h2,Nat.mod_eq_of_lt (by omega)]
theorem bit_step (X i : Nat) : X / 2 ^ i = 2 * (X / 2 ^ (i + 1)) + X / 2 ^ i % 2:=by
 rw [Nat.pow_succ,← Nat.div_div_eq_div_mul];omega
end Go.Cv.Dig
namespace Go.Proofs.YtgeihelkkhjjaaaGreatDoor
open Go.RowKit Go.Cv Go.Cv.Dig
theorem qc7 (w : World) (v1 v2 : Value) (x y : Nat) (h1 : Num w v1 x 11) (h2 : Num w v2 y 11) :
  Calls Tryz.prog 30 #[v1,v2] w fun e w'=>∃ c,e = .returned (.int .i64 c)∧qfm x y c∧Ext w w':=by
 obtain ⟨A,n,c,l,rfl,hn,hc,hr,hcan,rfl,hl⟩:=h1
 obtain ⟨B,n2,c2,l2,rfl,hn2,hc2,hr2,hcan2,rfl,hl2⟩:=h2
 refine (qmf A B n n2 c c2 l l2 w hn hn2 hcan hcan2 hr hr2 (by omega) (by omega)).mono ?_
 rintro e w' ⟨k,rfl,hk,hx⟩
 exact ⟨k,rfl,hk,hx⟩
theorem and_mod_ (x k : Nat) (hk : k < 64) (hx : x < 2 ^ 63) : bits .and .i64 (x : Int) (((2 ^ k - 1 : Nat)) : Int) = ((x % 2 ^ k : Nat) : Int):=by
 show IntKind.i64.wrap (((BitVec.ofInt 64 (x : Int) &&& BitVec.ofInt 64 (((2 ^ k - 1 : Nat)) : Int)).toNat : Nat) : Int) = _
 rw [BitVec.ofInt_natCast,BitVec.ofInt_natCast,← BitVec.ofNat_and,Nat.and_two_pow_sub_one_eq_mod,BitVec.toNat_ofNat]
 have h1 : x % 2 ^ k ≤ x:=Nat.mod_le _ _
 rw [Nat.mod_eq_of_lt (by omega)]
 exact IntWalk.i64_in _ (by omega)
theorem bit_and (d t : Nat) (hd : d < 16777216) : bits .and .i64 ((d / 2 ^ t : Nat) : Int) 1 = ((d / 2 ^ t % 2 : Nat) : Int):=by
 have h0 : d / 2 ^ t ≤ d:=Nat.div_le_self _ _
 generalize d / 2 ^ t = e at *
 exact and_mod_ e 1 (by decide) (by omega)
theorem qps (w : World) (va : Value) (X L : Nat) (hL : L = ordN) (ha : Num w va X 1000) :
  Calls Tryz.prog 51 #[va] w fun e w'=>∃ v,e = .returned v∧Num w' v (X % L) 11∧Ext w w':=by
 have hO:=qgv
 rw [← hL] at hO
 have hL2 : Hid (1 < L∧L + L + 1 < 16777216 ^ 11):=Lib.hid (by rw [hL];decide)
 clear hL
 obtain ⟨N,hN⟩ : ∃ N,N = X % L:=⟨_,rfl⟩
 rw [← hN]
 replace hN:=Lib.hid hN
 obtain ⟨A,n,c,l,rfl,hn,hc,hr,hcan,hval,hle⟩:=ha
 have HN:=Lib.hid hn
 have HV:=Lib.hid hval
 have HX : Hid (X / 2 ^ (24 * n) = 0):=Lib.hid (by
  rw [← hval,← hn]
  refine Nat.div_eq_of_lt ?_
  have:=hcan.1.lt
  rw [Nat.pow_mul];exact this)
 clear hn hval
 have HC:=Lib.hid hcan.1
 clear hcan
 go_enter Tryz.func51,Tryz.ntmps51
 go_upto_region 4 with (go_at_call 32;with_reducible refine (hO _).mono ?_;rintro e w1 ⟨vo,rfl,hvo,hx1⟩)
 go_loopw [4,5] (fun v4 v5 wr=>∃ (k : Nat) (x : Int),k ≤ 24 * n∧v5 = .int .i64 x∧Hid (x + 1 = (k : Int))∧Num wr v4 (X / 2 ^ k % L) 11∧Ext w1 wr) (fun _ v5 _=>(intOf v5 + 1).toNat)
 case atStart =>
  refine ⟨24 * n,_,Nat.le_refl _,rfl,Lib.hid (by push_cast;omega),?_,Ext.refl _⟩
  rw [HX.out,Nat.zero_mod]
  exact ql3 w1
 case round =>
  obtain ⟨k,x,hk,rfl,hxk,hnum,hE⟩:=hrel
  have hxk':=hxk.out
  by_cases hx0 : 0 ≤ x
  ·obtain ⟨i,rfl⟩ : ∃ i : Nat,x = (i : Int):=⟨x.toNat,by omega⟩
   obtain rfl : k = i + 1:=by omega
   obtain ⟨q,hq⟩ : ∃ q,q = i / 24:=⟨_,rfl⟩
   obtain ⟨t,ht⟩ : ∃ t,t = i % 24:=⟨_,rfl⟩
   have hqm : q < n:=by omega
   have hqmI : (q : Int) < (n : Int):=by omega
   have hq0 : 0 ≤ (q : Int):=by omega
   have ht0 : 0 ≤ (t : Int):=by omega
   have ht24 : t < 24:=by omega
   have ht64I : (t : Int) < 64:=by omega
   have d1 : (i : Int) / 24 = (q : Int):=by omega
   have d2 : (i : Int).tdiv 24 = (q : Int):=by rw [Int.tdiv_eq_ediv_of_nonneg (by omega)];omega
   have r1 : (i : Int) % 24 = (t : Int):=by omega
   have r2 : (i : Int).tmod 24 = (t : Int):=by rw [Int.tmod_eq_emod_of_nonneg (by omega)];omega
   have hqw : q < l.length:=by rw [HN.out];exact hqm
   obtain ⟨ad,rfl,hcell⟩:=(hr.ext (hx1.trans hE)).at_ (k:=q) (by rw [List.length_map];exact hqw)
   rw [List.getElem_map] at hcell
   have hbit : X / 2 ^ i % 2 = (l[q]'hqw) / 2 ^ t % 2:=by
    rw [← HV.out,← dval_bit HC.out ht24 hqw]
    congr 3
    omega
   have hd : l[q]'hqw < 16777216:=HC.out _ (List.getElem_mem hqw)
   generalize l[q]'hqw = d at *
   have hand:=bit_and d t hd
   rw [← hbit] at hand
   have hcell2 : wr.cell? (ad.add q) = some (.int .i64 (d : Int)):=hcell
   have hi64 : i < 24000:=by omega
   have hidx : Hid ((i : Int) - 1 + 1 = (i : Int)):=Lib.hid (by omega)
   have hil : i ≤ 24 * n:=by omega
   have hv1 : IntKind.i64.wrap ((i : Int) - 1) = (i : Int) - 1:=IntWalk.i64_in _ (by omega)
   have hstep:=bit_step X i
   obtain ⟨r,hr0⟩ : ∃ r,r = X / 2 ^ (i + 1) % L:=⟨_,rfl⟩
   rw [← hr0] at hnum
   have hrL : r < L:=by rw [hr0];exact Nat.mod_lt _ (by have:=hL2.out.1;omega)
   have hb2 : X / 2 ^ i % 2 < 2:=Nat.mod_lt _ (by decide)
   obtain ⟨b,hb⟩ : ∃ b,b = X / 2 ^ i % 2:=⟨_,rfl⟩
   rw [← hb] at hand hb2 hstep
   have HS1 : Hid (L ≤ r + r + b→r + r + b - L = X / 2 ^ i % L):=Lib.hid fun h=>by rw [hstep];exact qpu hr0 (by omega) hL2.out.1 h
   have HS0 : Hid (¬ L ≤ r + r + b→r + r + b = X / 2 ^ i % L):=Lib.hid fun h=>by rw [hstep];exact qn8 hr0 (by omega) hL2.out.1 h
   have hr1:=Lib.hid (show r + r < 16777216 ^ 11 from by have:=hL2.out.2;omega)
   have hr2':=Lib.hid (show r + r + 1 < 16777216 ^ 11 from by have:=hL2.out.2;omega)
   have hshr : ((d : Int) / 2 ^ t) = ((d / 2 ^ t : Nat) : Int):=by push_cast;rfl
   obtain ⟨e,he⟩ : ∃ e,e = d / 2 ^ t:=⟨_,rfl⟩
   rw [← he] at hshr hand
   clear he
   have hms : (((i : Int) - 1 + 1).toNat) < ((i : Int) + 1).toNat:=by omega
   have hxw:=hx1
   clear hb hr0 hstep hbit hq ht hxk hcell hxk' hx0 hrL
   rcases (by omega : b = 0 ∨ b = 1) with rfl | rfl
   ·by_cases hcm : L ≤ r + r + 0
    ·have HS:=Lib.hid (HS1.out hcm)
     have hcx:=Lib.hid hcm
     clear hcm
     go_wp2_with (first
     | (go_at_call 55;with_reducible refine (qer _ _ _ r r hnum hnum hr1.out).mono ?_;rintro e w2 ⟨v2,rfl,hv2,hx2⟩;have hcell3:=Keep.cell (bs:=[]) (Keep.of_ext hx2) hcell2 (by simp);have hE2:=hE.trans hx2)
     | (go_at_call 30;with_reducible refine (qc7 _ _ _ (r + r) L hv2 (hvo.ext hE2)).mono ?_;rintro e w4 ⟨c4,rfl,hc4,hx4⟩;have hE4:=hE2.trans hx4;have hc5 : 0 ≤ c4:=(by unfold qfm at hc4;have:=hcx.out;omega))
     | (go_at_call 80;with_reducible refine (qfj _ _ _ (r + r) L (hv2.ext hx4) (hvo.ext hE4) (by have:=hcx.out;omega)).mono ?_;rintro e w5 ⟨v5,rfl,hv5,hx5⟩))
     exact ⟨⟨i,_,hil,rfl,hidx,by rw [← HS.out];exact hv5,hE4.trans hx5⟩,by simp [intOf]⟩
    ·have HS:=Lib.hid (HS0.out hcm)
     have hcx:=Lib.hid hcm
     clear hcm
     go_wp2_with (first
     | (go_at_call 55;with_reducible refine (qer _ _ _ r r hnum hnum hr1.out).mono ?_;rintro e w2 ⟨v2,rfl,hv2,hx2⟩;have hcell3:=Keep.cell (bs:=[]) (Keep.of_ext hx2) hcell2 (by simp);have hE2:=hE.trans hx2)
     | (go_at_call 30;with_reducible refine (qc7 _ _ _ (r + r) L hv2 (hvo.ext hE2)).mono ?_;rintro e w4 ⟨c4,rfl,hc4,hx4⟩;have hE4:=hE2.trans hx4;have hc5 : ¬ 0 ≤ c4:=(by unfold qfm at hc4;have:=hcx.out;omega)))
     exact ⟨⟨i,_,hil,rfl,hidx,by rw [← HS.out];exact (hv2.ext hx4),hE4⟩,by simp [intOf]⟩
   ·by_cases hcm : L ≤ r + r + 1
    ·have HS:=Lib.hid (HS1.out hcm)
     have hcx:=Lib.hid hcm
     clear hcm
     go_wp2_with (first
     | (go_at_call 55;with_reducible refine (qer _ _ _ r r hnum hnum hr1.out).mono ?_;rintro e w2 ⟨v2,rfl,hv2,hx2⟩;have hcell3:=Keep.cell (bs:=[]) (Keep.of_ext hx2) hcell2 (by simp);have hE2:=hE.trans hx2)
     | (go_at_call 55;with_reducible refine (qer _ _ _ (r + r) 1 (hv2.ext (qaa _ _)) (ql4 _ _) hr2'.out).mono ?_;rintro e w3 ⟨v3,rfl,hv3,hx3⟩;have hE3:=hE2.trans ((qaa _ _).trans hx3))
     | (go_at_call 30;with_reducible refine (qc7 _ _ _ (r + r + 1) L hv3 (hvo.ext hE3)).mono ?_;rintro e w4 ⟨c4,rfl,hc4,hx4⟩;have hE4:=hE3.trans hx4;have hc5 : 0 ≤ c4:=(by unfold qfm at hc4;have:=hcx.out;omega))
     | (go_at_call 80;with_reducible refine (qfj _ _ _ (r + r + 1) L (hv3.ext hx4) (hvo.ext hE4) (by have:=hcx.out;omega)).mono ?_;rintro e w5 ⟨v5,rfl,hv5,hx5⟩))
     exact ⟨⟨i,_,hil,rfl,hidx,by rw [← HS.out];exact hv5,hE4.trans hx5⟩,by simp [intOf]⟩
    ·have HS:=Lib.hid (HS0.out hcm)
     have hcx:=Lib.hid hcm
     clear hcm
     go_wp2_with (first
     | (go_at_call 55;with_reducible refine (qer _ _ _ r r hnum hnum hr1.out).mono ?_;rintro e w2 ⟨v2,rfl,hv2,hx2⟩;have hcell3:=Keep.cell (bs:=[]) (Keep.of_ext hx2) hcell2 (by simp);have hE2:=hE.trans hx2)
     | (go_at_call 55;with_reducible refine (qer _ _ _ (r + r) 1 (hv2.ext (qaa _ _)) (ql4 _ _) hr2'.out).mono ?_;rintro e w3 ⟨v3,rfl,hv3,hx3⟩;have hE3:=hE2.trans ((qaa _ _).trans hx3))
     | (go_at_call 30;with_reducible refine (qc7 _ _ _ (r + r + 1) L hv3 (hvo.ext hE3)).mono ?_;rintro e w4 ⟨c4,rfl,hc4,hx4⟩;have hE4:=hE3.trans hx4;have hc5 : ¬ 0 ≤ c4:=(by unfold qfm at hc4;have:=hcx.out;omega)))
     exact ⟨⟨i,_,hil,rfl,hidx,by rw [← HS.out];exact (hv3.ext hx4),hE4⟩,by simp [intOf]⟩
  ·obtain rfl : k = 0:=by omega
   rw [Nat.pow_zero,Nat.div_one,← hN.out] at hnum
   go_wp2
   go_ret
   exact ⟨_,rfl,hnum,hx1.trans hE⟩
end Go.Proofs.YtgeihelkkhjjaaaGreatDoor
end
section
namespace Go.Cv.Dig
open Go.RowKit
structure ProdInv (l m os : List Nat) (i : Nat) : Prop where
 len : os.length = l.length + m.length
 small : qa4 os
 val : dval os = lo l i * dval m
 zero : ∀ j,i + m.length ≤ j→dg os j = 0
structure ProdIn (l m os : List Nat) (i k c : Nat) : Prop where
 len : os.length = l.length + m.length
 small : qa4 os
 car : c < 16777216
 val : dval os + 16777216 ^ (i + k) * c = lo l i * dval m + 16777216 ^ i * (dg l i * lo m k)
 zero : ∀ j,i + m.length ≤ j→dg os j = 0
theorem ProdInv.start (l m : List Nat) : ProdInv l m (List.replicate (l.length + m.length) 0) 0:=by
 refine ⟨by simp,fun d hd=>by rw [List.eq_of_mem_replicate hd];decide,by rw [qfy,qcy,Nat.zero_mul],fun j _=>?_⟩
 unfold dg
 rw [List.getD_eq_getElem?_getD,List.getElem?_replicate]
 split <;> rfl
theorem ProdInv.enter {l m os : List Nat} {i : Nat} (h : ProdInv l m os i) : ProdIn l m os i 0 0 :=
 ⟨h.len,h.small,by decide,by rw [h.val,qcy];simp,h.zero⟩
theorem prod_le {a b c d : Nat} (ha : a < 16777216) (hb : b < 16777216) (hc : c < 16777216) (hd : d < 16777216) : a + b * c + d < 16777216 * 16777216:=by
 have h:=Nat.mul_le_mul (show b ≤ 16777215 by omega) (show c ≤ 16777215 by omega)
 omega
theorem ProdIn.step {l m os : List Nat} {i k c : Nat} (hl : qa4 l) (hm : qa4 m) (hi : i < l.length) (hk : k < m.length) (h : ProdIn l m os i k c) :
  ProdIn l m (os.set (i + k) ((dg os (i + k) + dg l i * dg m k + c) % 16777216)) i (k + 1) ((dg os (i + k) + dg l i * dg m k + c) / 16777216):=by
 have h1:=hl.dg i
 have h2:=hm.dg k
 have h3:=h.small.dg (i + k)
 have hlen:=h.len
 have ht:=prod_le h3 h1 h2 h.car
 have ha:=qcj (l:=os) (i:=i + k) (by omega) ((dg os (i + k) + dg l i * dg m k + c) % 16777216)
 have hv:=h.val
 obtain ⟨t,ht0⟩ : ∃ t,t = dg os (i + k) + dg l i * dg m k + c:=⟨_,rfl⟩
 rw [← ht0] at ha ht ⊢
 refine ⟨by rw [List.length_set,hlen],h.small.set _ (Nat.mod_lt _ (by decide)),Nat.div_lt_of_lt_mul ht,?_,fun j hj=>?_⟩
 ·have e2 : 16777216 ^ (i + k) * (t % 16777216 + 16777216 * (t / 16777216)) = 16777216 ^ (i + k) * t:=by rw [Nat.mod_add_div]
  rw [Nat.mul_add,← Nat.mul_assoc] at e2
  have e3 : 16777216 ^ (i + k) * t = 16777216 ^ (i + k) * dg os (i + k) + 16777216 ^ (i + k) * (dg l i * dg m k) + 16777216 ^ (i + k) * c:=by rw [ht0,Nat.mul_add,Nat.mul_add]
  have e4 : 16777216 ^ i * (dg l i * lo m (k + 1)) = 16777216 ^ i * (dg l i * lo m k) + 16777216 ^ (i + k) * (dg l i * dg m k):=by
   rw [qb5,Nat.mul_add,Nat.mul_add,Nat.pow_add]
   congr 1
   rw [Nat.mul_left_comm (dg l i),Nat.mul_assoc]
  rw [e4,← Nat.add_assoc i k 1,Nat.pow_succ]
  omega
 ·rw [qk4 (by omega),if_neg (by omega)]
  exact h.zero _ hj
end Go.Cv.Dig
namespace Go.Proofs.YtgeihelkkhjjaaaGreatDoor
open Go.RowKit Go.Cv Go.Cv.Dig
@[go_sem] theorem make_int2 (n m : Nat) (w : World) (hn : n + m ≤ 100000) : (Instr.makeSlice 53 (.int .i64 ((n : Int) + (m : Int))) (.int .i64 ((n : Int) + (m : Int)))).run Tryz.prog w =
  .ok (.slice (some ⟨w.heap.size,0,none⟩) (n + m) (n + m)) (w.alloc (.cells (qar (List.replicate (n + m) 0)) 3)):=qju (n + m) w (by omega)
end Go.Proofs.YtgeihelkkhjjaaaGreatDoor
end
end
