/-
  Texts of the lemmas below the claim, put together: RefS RefT Dec.
-/
import Derived.Test.YtgeihelkkhjjaaaGreatDoorKPt
set_option linter.unusedSimpArgs false
set_option linter.unusedVariables false
set_option maxRecDepth 20000
set_option maxHeartbeats 8000000
section
namespace Go.Cv
open Go.RowKit Go.Cv.Pr Go.Cv.Grp
theorem pp_is : pp = 2 ^ 255 - 19:=rfl
theorem d_ring {n : Nat} [NeZero n] (a b d i : Fin n) (h1 : b * i = 1) (h2 : d * b = 0 - a) : (0 - a) * i = d:=by grind
theorem d_is : (0 - tf 121665) * fiv (tf 121666) = C7.d:=by
 refine d_ring _ (tf 121666) _ _ (qe6 _ (qpa.2 (by decide))) ?_
 have h : Eqp (dN * 121666 + 121665) 0:=by decide +kernel
 have h2:=h.tf
 rw [qdo,qda,qcw] at h2
 show tf dN * tf 121666 = 0 - tf 121665
 generalize tf dN = a at *
 generalize tf 121666 = b at *
 generalize tf 121665 = c at *
 clear h
 grind
end Go.Cv
namespace Go.Proofs.YtgeihelkkhjjaaaGreatDoor
open Go.RowKit Go.Cv Go.Cv.Pr Go.Cv.Grp Go.Cv.Dig
def NF (w : World) (v : Value) (x : F7) : Prop:=Num w v x.val 11
theorem NF.ext {w w' : World} {v : Value} {x : F7} (h : NF w v x) (hx : Ext w w') : NF w' v x:=Num.ext h hx
theorem NF.of {w : World} {v : Value} {k : Nat} (h : Num w v (k % (2 ^ 255 - 19)) 11) : NF w v (tf k):=h
theorem NF.nil (w : World) : NF w (.slice none 0 0) 0:=ql3 w
theorem NF.one (w : World) (t : TypeId) : NF (w.alloc (.cells #[.int .i64 1] t)) (.slice (some ⟨w.heap.size,0,none⟩) 1 1) 1:=by
 unfold NF
 rw [show (1 : F7).val = 1 from by decide]
 exact ql4 w t
theorem NF.lit (k : Nat) (h0 : k ≠ 0) (hk : k < 16777216) (w : World) (t : TypeId) : NF (w.alloc (.cells #[.int .i64 (k : Int)] t)) (.slice (some ⟨w.heap.size,0,none⟩) 1 1) (tf k):=by
 unfold NF
 rw [show (tf k).val = k from Nat.mod_eq_of_lt (Nat.lt_trans hk (by unfold pp;decide))]
 exact qjt k h0 hk w t
theorem nadd {w : World} {v1 v2 : Value} {x y : F7} (h1 : NF w v1 x) (h2 : NF w v2 y) :
  Calls Tryz.prog 68 #[v1,v2] w fun e w'=>∃ v,e = .returned v∧NF w' v (x + y)∧Ext w w':=by
 refine (radd_any w v1 v2 _ _ h1 h2).mono ?_
 rintro e w' ⟨v,rfl,hv,hx⟩
 exact ⟨v,rfl,by unfold NF;rw [Fin.val_add];exact hv,hx⟩
theorem nmul {w : World} {v1 v2 : Value} {x y : F7} (h1 : NF w v1 x) (h2 : NF w v2 y) :
  Calls Tryz.prog 67 #[v1,v2] w fun e w'=>∃ v,e = .returned v∧NF w' v (x * y)∧Ext w w':=by
 refine (qji w v1 v2 _ _ h1 h2).mono ?_
 rintro e w' ⟨v,rfl,hv,hx⟩
 exact ⟨v,rfl,by unfold NF;rw [Fin.val_mul];exact hv,hx⟩
theorem nsub {w : World} {v1 v2 : Value} {x y : F7} (h1 : NF w v1 x) (h2 : NF w v2 y) :
  Calls Tryz.prog 61 #[v1,v2] w fun e w'=>∃ v,e = .returned v∧NF w' v (x - y)∧Ext w w':=by
 have hy:=y.isLt
 refine (qm2 w v1 v2 _ _ h1 h2 (Nat.lt_trans hy (by unfold pp;decide))).mono ?_
 rintro e w' ⟨v,rfl,hv,hx⟩
 refine ⟨v,rfl,?_,hx⟩
 unfold NF
 have e : (x - y).val = (x.val + 2 * (2 ^ 255 - 19) - y.val) % (2 ^ 255 - 19):=by
  rw [Fin.val_sub]
  have hy2 : y.val < 2 ^ 255 - 19:=hy
  show (2 ^ 255 - 19 - y.val + x.val) % (2 ^ 255 - 19) = _
  omega
 rw [e]
 exact hv
theorem fiv_val (x : F7) (P : Nat) (hP : P = 2 ^ 255 - 19) : (fiv x).val = x.val ^ (P - 2) % P:=by
 have h : pI x.val = x.val ^ (P - 2):=by
  unfold pI
  obtain ⟨K,hK⟩ : ∃ K,K = 2 ^ 255 - 21:=⟨_,rfl⟩
  rw [← hK,show P - 2 = K from by rw [hP,hK]]
 show pI x.val % pp = _
 rw [h]
 generalize x.val = a
 rw [pp_is,← hP]
theorem ninv {w : World} {v1 : Value} {x : F7} (h1 : NF w v1 x) :
  Calls Tryz.prog 66 #[v1] w fun e w'=>∃ v,e = .returned v∧NF w' v (fiv x)∧Ext w w':=by
 obtain ⟨P,hP⟩ : ∃ P,P = 2 ^ 255 - 19:=⟨_,rfl⟩
 refine (rinv_any w v1 _ P hP h1).mono ?_
 rintro e w' ⟨v,rfl,hv,hx⟩
 refine ⟨v,rfl,?_,hx⟩
 unfold NF
 rw [fiv_val x P hP]
 exact hv
theorem nin (f : Nat→UInt8) (w : World) :
  Calls Tryz.prog 65 #[.agg (qab f)] w fun e w'=>∃ v,e = .returned v∧NF w' v (tf (V f))∧Ext w w':=rin_any f w
theorem qey {w : World} {v : Value} {x : F7} (h : NF w v x) :
  Calls Tryz.prog 50 #[v] w fun e w'=>e = .returned (.agg (qab (fb x)))∧Ext w w':=qk9 w v _ h
theorem qqb {w : World} {v1 v2 : Value} {x y : F7} (h1 : NF w v1 x) (h2 : NF w v2 y) :
  Calls Tryz.prog 63 #[v1,v2] w fun e w'=>∃ v,e = .returned v∧NF w' v (x * fiv y)∧Ext w w':=by
 go_enter Tryz.func63,Tryz.ntmps63
 go_wp2_with (first
  | (go_at_call 66;with_reducible refine (ninv h2).mono ?_;rintro e w1 ⟨v3,rfl,hv3,hx1⟩)
  | (go_at_call 67;with_reducible refine (nmul (h1.ext hx1) hv3).mono ?_;rintro e w2 ⟨v4,rfl,hv4,hx2⟩))
 go_ret
 exact ⟨_,rfl,hv4,hx1.trans hx2⟩
theorem lit_1 (w : World) (t : TypeId) : NF (w.alloc (.cells #[.int .i64 121665] t)) (.slice (some ⟨w.heap.size,0,none⟩) 1 1) (tf 121665):=NF.lit 121665 (by decide) (by decide) w t
theorem lit_2 (w : World) (t : TypeId) : NF (w.alloc (.cells #[.int .i64 121666] t)) (.slice (some ⟨w.heap.size,0,none⟩) 1 1) (tf 121666):=NF.lit 121666 (by decide) (by decide) w t
theorem nD (w : World) : Calls Tryz.prog 33 #[] w fun e w'=>∃ v,e = .returned v∧NF w' v C7.d∧Ext w w':=by
 rw [← d_is]
 have l1:=lit_1
 have l2:=lit_2
 generalize tf 121665 = a at *
 generalize tf 121666 = b at *
 go_enter Tryz.func33,Tryz.ntmps33
 go_wp2_with (first
  | (go_at_call 61;with_reducible refine (nsub (NF.nil _) (l1 w _)).mono ?_;rintro e w1 ⟨v1,rfl,hv1,hx1⟩)
  | (go_at_call 63;with_reducible refine (qqb (hv1.ext (qaa _ _)) (l2 w1 _)).mono ?_;rintro e w2 ⟨v2,rfl,hv2,hx2⟩))
 go_ret
 exact ⟨_,rfl,hv2,(qaa _ _).trans (hx1.trans ((qaa _ _).trans hx2))⟩
end Go.Proofs.YtgeihelkkhjjaaaGreatDoor
end
section
namespace Go.Cv
open Go.RowKit Go.Cv.Pr Go.Cv.Grp
theorem neg_sq {n : Nat} [NeZero n] (a b : Fin n) (h : a + b = 0) : a * a = b * b:=by grind
theorem neg_of {n : Nat} [NeZero n] (a b : Fin n) (h : a + b = 0) : a = 0 - b:=by grind
def okF (x : F7) : Bool:=rtOk x.val
def rtF (x : F7) : F7:=tf (rtv x.val)
theorem okF_sq {x y : F7} (h : y * y = x) : okF x = true:=by
 refine qjg (b:=y.val) ?_
 rw [← qhf,qda,qea,qea,h]
theorem rtF_sq {x : F7} (h : okF x = true) : rtF x * rtF x = x:=by
 have h1 : Eqp (rtc x.val * rtc x.val) x.val:=of_decide_eq_true h
 have h2:=h1.tf
 rw [qda,qea] at h2
 rcases qlu h1 with h3 | h3
 ·have h4:=h3.tf
  unfold rtF
  rw [h4,h2]
 ·have h4:=h3.tf
  rw [qdo,qcw] at h4
  rw [← neg_sq _ _ h4] at h2
  exact h2
theorem qm1 (x : F7) : (rtF x).val % 2 = 0:=qm0 x.val
theorem qpp {x y : F7} (h : y * y = x) : rtF x = y ∨ rtF x = 0 - y:=by
 have h1 : Eqp (y.val * y.val) x.val:=by rw [← qhf,qda,qea,qea,h]
 rcases qlu h1 with h3 | h3
 ·left
  have h4:=h3.tf
  rw [qea] at h4
  exact h4
 ·right
  have h4:=h3.tf
  rw [qdo,qcw,qea] at h4
  exact neg_of _ _ h4
theorem neg_val (y : F7) (h : y ≠ 0) : (0 - y).val = pp - y.val:=by
 have h1 : y.val ≠ 0:=fun h2=>h (Fin.ext h2)
 have h2:=y.isLt
 rw [Fin.val_sub]
 show (pp - y.val + 0) % pp = _
 rw [Nat.add_zero,Nat.mod_eq_of_lt (by omega)]
theorem neg_odd (y : F7) (h : y ≠ 0) : (0 - y).val % 2 = 1 - y.val % 2:=by
 rw [neg_val y h]
 have h2:=y.isLt
 have h3 : pp % 2 = 1:=by unfold pp;decide
 omega
theorem qpq {x y : F7} (h : y * y = x) (he : y.val % 2 = 0) : rtF x = y:=by
 rcases qpp h with h1 | h1
 ·exact h1
 ·by_cases h0 : y = 0
  ·subst h0
   rw [h1]
   decide
  ·have h2:=qm1 x
   rw [h1,neg_odd y h0] at h2
   omega
end Go.Cv
namespace Go.Proofs.YtgeihelkkhjjaaaGreatDoor
open Go.RowKit Go.Cv Go.Cv.Pr Go.Cv.Grp Go.Cv.Dig
theorem nroot {w : World} {v1 : Value} {x : F7} (h1 : NF w v1 x) :
  Calls Tryz.prog 93 #[v1] w fun e w'=>∃ v,e = .returned (.tuple #[v,.bool (okF x)])∧(okF x = true→NF w' v (rtF x))∧Ext w w':=by
 obtain ⟨P,hP⟩ : ∃ P,P = 2 ^ 255 - 19:=⟨_,rfl⟩
 have hxP : x.val % P = x.val:=Nat.mod_eq_of_lt (by rw [hP];exact x.isLt)
 obtain ⟨r0,h0⟩ : ∃ r0,r0 = pE x.val % P:=⟨_,rfl⟩
 obtain ⟨r,hr⟩ : ∃ r,r = rtc x.val % P:=⟨_,rfl⟩
 obtain ⟨k1,k2,k3,k4,k5⟩:=root_ref x.val P r0 r hP h0 hr
 rw [hxP] at k1 k2 k3 k4
 have hlt : (if r % 2 = 1 then (0 + 2 * P - r) % P else r) < 2 ^ 256:=by
  have hp : 0 < P:=by rw [hP];decide
  have h2 : P < 2 ^ 256:=by rw [hP];decide
  have h3 : r < P:=by rw [hr];exact Nat.mod_lt _ hp
  split
  ·exact Nat.lt_trans (Nat.mod_lt _ hp) h2
  ·omega
 have hval : okF x = true→(rtF x).val = if r % 2 = 1 then (0 + 2 * P - r) % P else r:=fun h=>by
  have h2:=k5 h
  unfold ob at h2
  rw [qmh (Nat.lt_trans (Nat.mod_lt _ (by decide)) (by decide)) hlt] at h2
  exact of_decide_eq_true h2
 refine (qpr w v1 x.val P hP h1 r0 r k1 k2 k3).mono ?_
 rintro e w' ⟨v,rfl,h2,hx⟩
 refine ⟨v,by unfold okF;rw [k4],fun h=>?_,hx⟩
 unfold NF
 rw [hval h]
 refine h2 ?_
 unfold okF at h
 rw [k4] at h
 exact of_decide_eq_true h
theorem nxof {w : World} {v1 : Value} {y : F7} (h1 : NF w v1 y) :
  Calls Tryz.prog 60 #[v1] w fun e w'=>∃ v,e = .returned (.tuple #[v,.bool (okF ((y * y - 1) * fiv (C7.d * (y * y) + 1)))])∧(okF ((y * y - 1) * fiv (C7.d * (y * y) + 1)) = true→NF w' v (rtF ((y * y - 1) * fiv (C7.d * (y * y) + 1))))∧Ext w w':=by
 have hD:=nD
 generalize C7.d = d at *
 obtain ⟨q,hq⟩ : ∃ q,q = (y * y - 1) * fiv (d * (y * y) + 1):=⟨_,rfl⟩
 rw [← hq]
 replace hq:=Lib.hid hq
 go_enter Tryz.func60,Tryz.ntmps60
 go_wp2_with (first
  | (go_at_call 67;with_reducible refine (nmul h1 h1).mono ?_;rintro e w1 ⟨yy,rfl,hyy,hx1⟩)
  | (go_at_call 33;with_reducible refine (hD _).mono ?_;rintro e w2 ⟨dd,rfl,hdd,hx2⟩)
  | (go_at_call 67;with_reducible refine (nmul hdd (hyy.ext hx2)).mono ?_;rintro e w3 ⟨p,rfl,hp,hx3⟩)
  | (go_at_call 68;with_reducible refine (nadd (hp.ext (qaa _ _)) (NF.one _ _)).mono ?_;rintro e w4 ⟨o,rfl,ho,hx4⟩;have hyy4:=hyy.ext (hx2.trans (hx3.trans ((qaa _ _).trans hx4))))
  | (go_at_call 61;with_reducible refine (nsub (hyy4.ext (qaa _ _)) (NF.one _ _)).mono ?_;rintro e w5 ⟨s,rfl,hs,hx5⟩)
  | (go_at_call 63;with_reducible refine (qqb hs (ho.ext ((qaa _ _).trans hx5))).mono ?_;rintro e w6 ⟨t,rfl,ht,hx6⟩;rw [← hq.out] at ht)
  | (go_at_call 93;with_reducible refine (nroot ht).mono ?_;rintro e w7 ⟨u,rfl,hu,hx7⟩))
 go_ret2
 exact ⟨_,rfl,hu,hx1.trans (hx2.trans (hx3.trans ((qaa _ _).trans (hx4.trans ((qaa _ _).trans (hx5.trans (hx6.trans hx7)))))))⟩
end Go.Proofs.YtgeihelkkhjjaaaGreatDoor
end
section
namespace Go.Cv
open Go.RowKit Go.Cv.Pr Go.Cv.Grp
def decG (b : Nat→UInt8) : Nat→UInt8:=updb b 31 (b 31 &&& 127)
def decY (b : Nat→UInt8) : F7:=tf (V (decG b))
def decU (y : F7) : F7:=(y * y - 1) * fiv (C7.d * (y * y) + 1)
def decX (b : Nat→UInt8) : Option F7 :=
 if V (decG b) < pp then (if okF (decU (decY b)) = true then (if (b 31 >>> 7 == 1) = true then (if rtF (decU (decY b)) = 0 then none else some (0 - rtF (decU (decY b)))) else some (rtF (decU (decY b)))) else none) else none
theorem low_p (f : Nat→UInt8) : beqb (fb (tf (V f))) f = decide (V f < pp):=by
 have hp : (pp : Nat) < 2 ^ 256:=by unfold pp;decide
 have h0 : 0 < pp:=by unfold pp;decide
 have hf : V (nb (V f % pp)) = V f % pp:=V_nb (Nat.lt_trans (Nat.mod_lt _ h0) hp)
 show beqb (nb (V f % pp)) f = _
 generalize pp = L at *
 by_cases h : V f < L
 ·rw [decide_eq_true h,Nat.mod_eq_of_lt h,qdm]
  exact nb_Vt f
 ·rw [decide_eq_false h,Bool.eq_false_iff]
  intro h2
  rw [qdm] at h2
  have h3 : V (nb (V f % L)) = V f:=qb8 32 h2
  rw [hf] at h3
  have:=Nat.mod_lt (V f) h0
  omega
theorem pc_low {f k : Nat→UInt8} (h : V f < pp) : pc k f = pc k (fb (tf (V f))):=by
 have h1:=low_p f
 rw [decide_eq_true h] at h1
 rw [qip,qip,qf9 h1]
theorem qpo (a : Nat) : rtOk a = okF (tf a):=by
 have e : Eqp (tf a).val a:=by
  show a % pp % (2 ^ 255 - 19) = a % (2 ^ 255 - 19)
  exact Nat.mod_mod _ _
 unfold okF
 cases h1 : rtOk a
 ·cases h2 : rtOk (tf a).val
  ·rfl
  ·exfalso
   have h3 : Eqp (rtc (tf a).val * rtc (tf a).val) (tf a).val:=of_decide_eq_true h2
   have h4:=qjg (h3.trans e)
   rw [h1] at h4;cases h4
 ·have h3 : Eqp (rtc a * rtc a) a:=of_decide_eq_true h1
  exact (qjg (h3.trans e.symm)).symm
theorem rtv_tf {a : Nat} (h : rtOk a = true) : tf (rtv a) = rtF (tf a):=by
 have h1 : Eqp (rtc a * rtc a) a:=of_decide_eq_true h
 refine (qpq ?_ (qm0 a)).symm
 have h2:=h1.tf
 rw [qda] at h2
 rcases qlu h1 with h3 | h3
 ·rw [h3.tf,h2]
 ·have h4:=h3.tf
  rw [qdo,qcw] at h4
  rw [← neg_sq _ _ h4] at h2
  exact h2
end Go.Cv
namespace Go.Proofs.YtgeihelkkhjjaaaGreatDoor
open Go.RowKit Go.Cv Go.Cv.Pr Go.Cv.Grp
noncomputable def decV (d : Option F7) (y : F7) : Array Value:=match d with | none=>#[.agg (pc (fun _=>0) (fun _=>0)),qa8] | some x=>#[.agg (pc (fb x) (fb y)),.nilIface]
theorem qgs (y : F7) : decV none y = #[.agg (pc (fun _=>0) (fun _=>0)),qa8]:=rfl
theorem qii (x y : F7) : decV (some x) y = #[.agg (pc (fb x) (fb y)),.nilIface]:=rfl
def isR (u : Value) (ok : Bool) (R : F7) : Prop:=∃ X,isE u X∧(ok = true→X = R)
def isRt (u : Value) (ok : Bool) (R : F7) : Prop:=∃ r,u = .tuple #[r,.bool ok]∧isR r ok R
theorem RV.isR {w : World} {n : Nat} {T : TypeId} {ok : Bool} {R : F7} (h : RV w n T (fun u=>isR u ok R)) : ∃ X,RV w n T (fun u=>isE u X)∧(ok = true→X = R):=by
 obtain ⟨cs,h1,X,h2,h3⟩:=h
 exact ⟨X,⟨cs,h1,h2⟩,h3⟩
theorem eroot {u : Value} {x : F7} (hu : isE u x) (w : World) :
  Calls Tryz.prog 90 #[u] w fun e w'=>∃ r,e = .returned r∧isRt r (okF x) (rtF x)∧Ext w w':=by
 obtain ⟨a,b,c,d,rfl,rfl⟩:=hu
 refine (root_any a b c d w).mono ?_
 rintro e w' ⟨s0,s1,s2,s3,rfl,hs,hx⟩
 refine ⟨_,rfl,⟨_,by rw [← qpo],⟨_,⟨s0,s1,s2,s3,rfl,rfl⟩,fun h=>?_⟩⟩,hx⟩
 rw [← qpo] at h
 rw [(rtv_is h hs).tf,rtv_tf h]
def qud : List Plan:=[⟨[],[]⟩,⟨[],[]⟩,⟨[],[]⟩]
def quh : List Plan:=[⟨[],[]⟩,⟨[0],[(16,0)]⟩,⟨[],[]⟩,⟨[0,1,2],[(17,1),(18,2)]⟩]
def qui : List Plan:=[⟨[],[]⟩,⟨[],[]⟩,⟨[0],[(20,0)]⟩,⟨[0,1,2],[(21,1)]⟩]
def quj : List Plan:=[⟨[],[]⟩,⟨[0],[(22,0)]⟩,⟨[],[]⟩,⟨[0,1,2],[(23,1),(5,2)]⟩]
def quk : List Plan:=[⟨[],[]⟩,⟨[],[]⟩,⟨[0,1],[(24,0),(25,1)]⟩,⟨[0,1,2],[(26,2)]⟩]
def qul : List Plan:=[⟨[],[]⟩,⟨[],[]⟩,⟨[0,1],[(28,0),(29,1)]⟩,⟨[0,1,2],[]⟩,⟨[],[]⟩,⟨[0,1,2,3,4],[(31,3),(32,4)]⟩,⟨[],[]⟩,⟨[0,1,2,3,4,5,6],[(33,5),(34,6)]⟩,⟨[0,1,2,3,4,5,6,7],[(35,7)]⟩,⟨[0,1,2,3,4,5,6,7,8],[(30,2),(36,8)]⟩,⟨[0,1,2,3,4,5,6,7,8,9],[(37,9)]⟩,⟨[0,1,2,3,4,5,6,7,8,9,10],[(38,10)]⟩,⟨[0,1,2,3,4,5,6,7,8,9,10,11],[(27,11)]⟩,⟨[0,1,2,3,4,5,6,7,8,9,10,11],[(27,11)]⟩,⟨[],[]⟩,⟨[0,1,2,3,4,5,6,7,8,9,10,11,12,14],[(39,12),(6,14)]⟩,⟨[0,1,2,3,4,5,6,7,8,9,10,11,12,13,14,15],[(40,13)]⟩]
def qum : List Plan:=[⟨[],[]⟩,⟨[0],[(41,0)]⟩,⟨[],[]⟩,⟨[0,1,2],[(42,1),(8,2)]⟩]
def que : List Plan:=[⟨[],[]⟩,⟨[],[]⟩,⟨[0],[(55,0)]⟩,⟨[0,1,2],[(56,1)]⟩]
def quf : List Plan:=[⟨[],[]⟩,⟨[],[]⟩,⟨[0,1],[(60,0),(61,1)]⟩,⟨[0,1,2],[(62,2)]⟩]
def qug : List Plan:=[⟨[],[]⟩,⟨[],[]⟩,⟨[0,1],[(63,0),(64,1)]⟩,⟨[0,1,2],[(65,2)]⟩,⟨[0,1,2,3],[]⟩]
theorem qnt (b : Nat→UInt8) (w : World) :
  Calls Tryz.prog 56 #[.agg (qab b)] w fun e w'=>e = .returned (.tuple (decV (decX b) (decY b)))∧Ext w w':=by
 have hG:=low_p (decG b)
 obtain ⟨g,hg⟩ : ∃ g,g = decG b:=⟨_,rfl⟩
 obtain ⟨y,hy⟩ : ∃ y,y = decY b:=⟨_,rfl⟩
 obtain ⟨o,ho⟩ : ∃ o,o = b 31 >>> 7:=⟨_,rfl⟩
 obtain ⟨U,hU⟩ : ∃ U,U = decU y:=⟨_,rfl⟩
 have hyg : y = tf (V g):=by rw [hy,hg];rfl
 obtain ⟨d,hd⟩ : ∃ d,d = decX b:=⟨_,rfl⟩
 rw [← hd,← hy]
 unfold decX at hd
 rw [← hg,← hy,← hU,← ho] at hd
 rw [← hg] at hG
 have hg' : g = updb b 31 (b 31 &&& 127):=hg
 have hU' : U = (y * y - 1) * fiv (C7.d * (y * y) + 1):=hU
 clear hg hU hy
 replace hg':=Lib.hid hg'
 replace hU':=Lib.hid hU'
 replace hd:=Lib.hid hd
 replace ho:=Lib.hid ho
 replace hyg:=Lib.hid hyg
 replace hG:=Lib.hid hG
 go_enter Tryz.func56,Tryz.ntmps56
 have hx : Ext w w:=Ext.refl w
 go_upto_region 0 with fail
 have hok : TrsOk [] w.heap.size ([(tk (some 0) 0 22 (none) (fun u=>u = .agg (qab (b))) (fun _=>True)),(tk (some 1) 0 49 (none) (sz 64) (fun _=>True))] : List Trk):=⟨by simp [tk],by simp [tk],by simp [tk],by simp [tk]⟩
 refine qac (Inv [] (fun j u=>match j with | 2=>u = .nilIface | _=>True) [(tk (some 0) 0 22 (none) (fun u=>u = .agg (qab (b))) (fun _=>True)),(tk (some 1) 0 49 (none) (sz 64) (fun _=>True))] w) qud [(1,0),(2,1),(3,2)] 66 rfl (by kernel_rfl) (Inv.start0 hok (by simp)) ⟨?_,?_,?_,trivial⟩ ?_
 ·exact qa7 0 rfl rfl rfl rfl rfl hok fun L v w D I=>qba (qab b).toList rfl rfl ⟨trivial,rfl,_,rfl,rfl⟩
 ·exact qa7 1 rfl rfl rfl rfl rfl hok fun L v w D I=>qj3 rfl fun c h=>⟨trivial,rfl,c,rfl,qa5 c h⟩
 ·exact sV fun L v w D N I=>⟨rfl,Ext.refl _⟩
 intro L v1 W1 hL hI
 obtain ⟨n1,hb_n1,lo_n1,R_n1⟩:=hI.made0 0 rfl (hL 0 (by decide))
 obtain ⟨r,hb_r,lo_r,R_r⟩:=hI.made0 1 rfl (hL 1 (by decide))
 have ne_n1_r:=hI.two 0 1 rfl rfl rfl rfl rfl (hL 0 (by decide)) (hL 1 (by decide)) hb_n1 hb_r
 have bs_n1:=Nat.le_trans hx.size lo_n1
 have lt_n1:=R_n1.lt
 have bs_r:=Nat.le_trans hx.size lo_r
 have lt_r:=R_r.lt
 replace hx:=hx.trans hI.keep.to_ext
 have hs_3_0 : (v1 2) = .nilIface:=hI.val 2 (hL 2 (by decide))
 clear hI hL hok L
 simp only [putP,Act.put,zA,zB,zC,hb_n1,hb_r,hs_3_0]
 have e1:=R_n1.byte (i:=31) (by decide)
 have e3:=R_n1.fro 31
 go_upto_region 3 with fail
 obtain ⟨W4,hW4⟩ : ∃ W4,W4 = W1.setCell ⟨n1,31,none⟩ (.int .u8 (n8 (b 31 &&& 127))):=⟨_,rfl⟩
 rw [← hW4]
 have hk : Keep [n1] W1 W4:=by rw [hW4];exact Keep.setCell _ ⟨n1,31,none⟩ _
 have R5:=R_n1.set 31 (b 31 &&& 127)
 rw [← hW4,← hg'.out] at R5
 clear R_n1 e1 e3
 have R_n1 : RV W4 n1 22 (fun u=>u = .agg (qab g)):=R5
 clear R5
 replace R_r:=R_r.keep hk (by simp [ne_n1_r,Ne.symm ne_n1_r])
 replace hx:=Ext.keep_ hx hk (by simpa using bs_n1)
 clear hW4
 replace lt_n1:=Nat.lt_of_lt_of_le lt_n1 hk.size
 replace lt_r:=Nat.lt_of_lt_of_le lt_r hk.size
 clear hk
 rw [← ho.out]
 have hok : TrsOk [] W4.heap.size ([] : List Trk):=⟨by simp [tk],by simp [tk],by simp [tk],by simp [tk]⟩
 refine qag (Inv [] (fun j u=>match j with | 0=>u = .agg (qab (g)) | 1=>u = .agg (qab (fb (tf (V (g))))) | 2=>u = .agg (qab (g)) | 3=>u = .bool (!beqb (fb (tf (V (g)))) (g)) | _=>True) [] W4) quh [(16,0),(17,1),(18,2),(19,3)] 66 (by kernel_rfl) rfl (by kernel_rfl) (Inv.start hok (by simp)) ⟨?_,?_,?_,?_,trivial⟩ ?_
 ·exact sV fun L v w D N I=>ld_B (R_n1.keep0 I.keep) _ rfl rfl ldK
 ·exact sV fun L v w D N I=>gfRed _ _ rfl rfl (qai (qaf (qjk (g) w)) (ar1 (I.val 0 (D 0 rfl))))
 ·exact sV fun L v w D N I=>ld_B (R_n1.keep0 I.keep) _ rfl rfl ldK
 ·exact sV fun L v w D N I=>g_neB _ _ _ rfl (I.val 1 (D 1 rfl)) (I.val 2 (D 2 rfl)) ⟨rfl,Ext.refl _⟩
 intro L v2 W2 hL hI
 replace R_n1:=R_n1.keep0 hI.keep
 replace R_r:=R_r.keep0 hI.keep
 replace lt_n1:=ltk lt_n1 hI.keep.size
 replace lt_r:=ltk lt_r hI.keep.size
 replace hx:=hx.trans hI.keep.to_ext
 have hs_19_3 : (v2 3) = .bool (!beqb (fb (tf (V (g)))) (g)):=hI.val 3 (hL 3 (by decide))
 clear hI hL hok L
 simp only [putP,Act.put,zA,zB,zC,hs_19_3]
 rw [hG.out]
 clear hs_19_3
 by_cases hlt : V g < pp
 rotate_left
 ·skip
  have hdd : Hid (d = none):=Lib.hid (by rw [hd.out,if_neg hlt])
  rw [decide_eq_false hlt]
  go_upto_region 4 with fail
  have hok : TrsOk [r] W2.heap.size ([(tk (none) r 49 (some 2) (sz 64) (fun u=>u = .agg (pc (fun _=>0) (fun _=>0))))] : List Trk):=⟨by simp [tk,R_r.lt],by simp [tk],by simp [tk],by simp [tk]⟩
  refine qac (Inv [r] (fun j u=>match j with | 0=>u = .agg (pc (fun _=>0) (fun _=>0)) | 1=>u = .iface 98 (.int .i64 29) | 3=>u = .iface 98 (.int .i64 29) | _=>True) [(tk (none) r 49 (some 2) (sz 64) (fun u=>u = .agg (pc (fun _=>0) (fun _=>0))))] W2) qui [(20,0),(21,1),(3,3)] 66 rfl (by kernel_rfl) (Inv.start0 hok (by
    simp only [zD,zE,zF,zG,zH]
    exact fun _=>R_r)) ⟨?_,?_,?_,?_,trivial⟩ ?_
  ·exact sV fun L v w D N I=>qct rfl ⟨rfl,Ext.refl _⟩
  ·intro L v w hL hD hC hI
   refine ⟨fun _=>?_,fun hw=>by cases hw⟩
   refine hI.val_step hL (by simp) ?_
   rw [show qaj qui 1 = [] from rfl]
   go_simp
   exact ⟨rfl,Ext.refl _⟩
  ·exact s_put 0 rfl rfl rfl rfl rfl hok fun L v w D I cs hR ho=>st_P hR (qaq ho) _ _ rfl rfl (I.val 0 (D 0 rfl)) fun _ c a b k=>⟨trivial,k,c,a,b⟩
  ·exact sV fun L v w D N I=>⟨(I.val 1 (D 1 rfl)),Ext.refl _⟩
  intro L v3 W3 hL hI
  replace R_n1:=R_n1.keep1 hI.keep ne_n1_r
  replace R_r:=hI.new 0 rfl (hL 2 (by decide))
  replace lt_n1:=ltk lt_n1 hI.keep.size
  replace lt_r:=ltk lt_r hI.keep.size
  replace hx:=hx.keep1 hI.keep bs_r
  have hs_3_4 : (v3 3) = .iface 98 (.int .i64 29):=hI.val 3 (hL 3 (by decide))
  clear hI hL hok L
  simp only [putP,Act.put,zA,zB,zC,hs_3_4]
  go_wp2
  refine bodyPost_ret (qbf rfl _ R_r rfl) rfl ?_
  refine ⟨?_,hx⟩
  rw [hdd.out,qgs]
  rfl
 ·have hdl:=hd.out
  rw [if_pos hlt] at hdl
  replace hd:=Lib.hid hdl
  clear hdl
  rw [decide_eq_true hlt]
  go_upto_region 5 with fail
  have hok : TrsOk [] W2.heap.size ([(tk (some 2) 0 101 (some 3) (sz 4) (fun u=>isE u (y)))] : List Trk):=⟨by simp [tk],by simp [tk],by simp [tk],by simp [tk]⟩
  refine qac (Inv [] (fun j u=>match j with | 0=>u = .agg (qab (g)) | 1=>isE u (y) | _=>True) [(tk (some 2) 0 101 (some 3) (sz 4) (fun u=>isE u (y)))] W2) quj [(22,0),(23,1),(5,2)] 66 rfl (by kernel_rfl) (Inv.start0 hok (by simp)) ⟨?_,?_,?_,?_,trivial⟩ ?_
  ·exact sV fun L v w D N I=>ld_B (R_n1.keep0 I.keep) _ rfl rfl ldK
  ·intro L v w hL hD hC hI
   refine ⟨fun _=>?_,fun hw=>by cases hw⟩
   have h0 : (v 0) = .agg (qab (g)):=hI.val 0 (hD 0 (by decide))
   refine hI.val_step hL (by simp) ?_
   rw [show qaj quj 1 = [(22,0)] from rfl]
   refine qei _ _ _ _ rfl rfl Tryz.func84 (by kernel_rfl) (by kernel_rfl) ?_
   refine Calls.mono (by have:=ein g w;rwa [← h0,← hyg.out] at this) ?_
   rintro e w' ⟨r,rfl,hr,hx⟩
   exact ⟨r,rfl,hr,hx⟩
  ·exact qa7 0 rfl rfl rfl rfl rfl hok fun L v w D I=>al_E rfl fun c h=>⟨trivial,rfl,c,rfl,qa5 c h⟩
  ·exact qcv 0 2 rfl rfl rfl rfl rfl rfl hok fun L v w D I n cs hb hR ho=>st_E hR (qaq ho) _ _ rfl hb (I.val 1 (D 1 rfl)) fun _ c a b k=>⟨trivial,k,c,a,b⟩
  intro L v3 W3 hL hI
  obtain ⟨y5,hb_y5,lo_y5,R_y5⟩:=hI.made 0 rfl (hL 2 (by decide)) (hL 3 (by decide))
  replace R_n1:=R_n1.keep0 hI.keep
  replace R_r:=R_r.keep0 hI.keep
  have ne_n1_y5:=Nat.ne_of_lt (Nat.lt_of_lt_of_le lt_n1 lo_y5)
  have ne_r_y5:=Nat.ne_of_lt (Nat.lt_of_lt_of_le lt_r lo_y5)
  replace lt_n1:=ltk lt_n1 hI.keep.size
  replace lt_r:=ltk lt_r hI.keep.size
  have bs_y5:=Nat.le_trans hx.size lo_y5
  have lt_y5:=R_y5.lt
  replace hx:=hx.trans hI.keep.to_ext
  clear hI hL hok L
  simp only [putP,Act.put,zA,zB,zC,hb_y5]
  go_upto_region 6 with fail
  have hok : TrsOk [y5] W3.heap.size ([(tk (none) y5 101 (some 3) (fun u=>isE u (y)) (fun u=>isE u ((y) * (y))))] : List Trk):=⟨by simp [tk,R_y5.lt],by simp [tk],by simp [tk],by simp [tk]⟩
  refine qac (Inv [y5] (fun j u=>match j with | 0=>isE u (y) | 1=>isE u (y) | 2=>isE u ((y) * (y)) | _=>True) [(tk (none) y5 101 (some 3) (fun u=>isE u (y)) (fun u=>isE u ((y) * (y))))] W3) quk [(24,0),(25,1),(26,2)] 66 rfl (by kernel_rfl) (Inv.start0 hok (by
    simp only [zD,zE,zF,zG,zH]
    exact fun _=>R_y5)) ⟨?_,?_,?_,?_,trivial⟩ ?_
  ·exact sV fun L v w D N I=>ld_E (I.old 0 rfl (N 3 rfl)) _ rfl rfl ldK
  ·exact sV fun L v w D N I=>ld_E (I.old 0 rfl (N 3 rfl)) _ rfl rfl ldK
  ·exact sV fun L v w D N I=>gMul _ _ rfl rfl (emul (I.val 0 (D 0 rfl)) (I.val 1 (D 1 rfl)) w)
  ·exact s_put 0 rfl rfl rfl rfl rfl hok fun L v w D I cs hR ho=>st_E hR (qid ho) _ _ rfl rfl (I.val 2 (D 2 rfl)) fun _ c a b k=>⟨trivial,k,c,a,b⟩
  intro L v4 W4 hL hI
  replace R_n1:=R_n1.keep1 hI.keep ne_n1_y5
  replace R_r:=R_r.keep1 hI.keep ne_r_y5
  replace R_y5:=hI.new 0 rfl (hL 3 (by decide))
  replace lt_n1:=ltk lt_n1 hI.keep.size
  replace lt_r:=ltk lt_r hI.keep.size
  replace lt_y5:=ltk lt_y5 hI.keep.size
  replace hx:=hx.keep1 hI.keep bs_y5
  clear hI hL hok L
  simp only [putP,Act.put,zA,zB,zC]
  go_upto_region 7 with fail
  have hok : TrsOk [] W4.heap.size ([(tk (some 14) 0 101 (some 15) (sz 4) (fun u=>isR u (okF U) (rtF U)))] : List Trk):=⟨by simp [tk],by simp [tk],by simp [tk],by simp [tk]⟩
  refine qag (Inv [] (fun j u=>match j with | 0=>isE u ((y) * (y)) | 1=>isE u (1) | 2=>isE u (((y) * (y)) - (1)) | 3=>isE u (C7.d) | 4=>isE u ((y) * (y)) | 5=>isE u ((C7.d) * ((y) * (y))) | 6=>isE u (1) | 7=>isE u (((C7.d) * ((y) * (y))) + (1)) | 8=>isE u (fiv (((C7.d) * ((y) * (y))) + (1))) | 9=>isE u ((((y) * (y)) - (1)) * (fiv (((C7.d) * ((y) * (y))) + (1)))) | 10=>isRt u (okF U) (rtF U) | 11=>isRt u (okF U) (rtF U) | 12=>isR u (okF U) (rtF U) | 13=>u = .bool (okF U) | 16=>u = .bool (okF U) | _=>True) [(tk (some 14) 0 101 (some 15) (sz 4) (fun u=>isR u (okF U) (rtF U)))] W4) qul [(28,0),(29,1),(30,2),(31,3),(32,4),(33,5),(34,6),(35,7),(36,8),(37,9),(38,10),(27,11),(39,12),(40,13),(6,14),(7,16)] 66 (by kernel_rfl) rfl (by kernel_rfl) (Inv.start hok (by simp)) ⟨?_,?_,?_,?_,?_,?_,?_,?_,?_,?_,?_,?_,?_,?_,?_,?_,?_,trivial⟩ ?_
  ·exact sV fun L v w D N I=>ld_E (R_y5.keep0 I.keep) _ rfl rfl ldK
  ·exact sV fun L v w D N I=>qow rfl rfl ldK
  ·exact sV fun L v w D N I=>gSub _ _ rfl rfl (esub (I.val 0 (D 0 rfl)) (I.val 1 (D 1 rfl)) w)
  ·exact sV fun L v w D N I=>gD _ _ rfl rfl (d_any w)
  ·exact sV fun L v w D N I=>ld_E (R_y5.keep0 I.keep) _ rfl rfl ldK
  ·exact sV fun L v w D N I=>gMul _ _ rfl rfl (emul (I.val 3 (D 3 rfl)) (I.val 4 (D 4 rfl)) w)
  ·exact sV fun L v w D N I=>qow rfl rfl ldK
  ·exact sV fun L v w D N I=>gAdd _ _ rfl rfl (eadd (I.val 5 (D 5 rfl)) (I.val 6 (D 6 rfl)) w)
  ·exact sV fun L v w D N I=>gInv _ _ rfl rfl (einv (I.val 7 (D 7 rfl)) w)
  ·exact sV fun L v w D N I=>gMul _ _ rfl rfl (emul (I.val 2 (D 2 rfl)) (I.val 8 (D 8 rfl)) w)
  ·intro L v w hL hD hC hI
   refine ⟨fun _=>?_,fun hw=>by cases hw⟩
   have h9 : isE (v 9) ((((y) * (y)) - (1)) * (fiv (((C7.d) * ((y) * (y))) + (1)))):=hI.val 9 (hD 9 (by decide))
   refine hI.val_step hL (by simp) ?_
   rw [show qaj qul 10 = [(37,9)] from rfl]
   refine qei _ _ _ _ rfl rfl Tryz.func90 (by kernel_rfl) (by kernel_rfl) ?_
   refine Calls.mono (by have:=eroot h9 w;rwa [← hU'.out] at this) ?_
   rintro e w' ⟨r,rfl,hr,hx⟩
   exact ⟨r,rfl,hr,hx⟩
  ·exact sV fun L v w D N I=>⟨(I.val 10 (D 10 rfl)),Ext.refl _⟩
  ·intro L v w hL hD hC hI
   refine ⟨fun _=>?_,fun hw=>by cases hw⟩
   have h11 : isRt (v 11) (okF U) (rtF U):=hI.val 11 (hD 11 (by decide))
   refine hI.val_step hL (by simp) ?_
   rw [show qaj qul 12 = [(27,11)] from rfl]
   obtain ⟨r0,hr,hR⟩:=h11
   simp only [putP,Act.put,zA,zB,zC,hr]
   go_simp
   exact ⟨hR,Ext.refl _⟩
  ·intro L v w hL hD hC hI
   refine ⟨fun _=>?_,fun hw=>by cases hw⟩
   have h11 : isRt (v 11) (okF U) (rtF U):=hI.val 11 (hD 11 (by decide))
   refine hI.val_step hL (by simp) ?_
   rw [show qaj qul 13 = [(27,11)] from rfl]
   obtain ⟨r0,hr,hR⟩:=h11
   simp only [putP,Act.put,zA,zB,zC,hr]
   go_simp
   exact ⟨rfl,Ext.refl _⟩
  ·exact qa7 0 rfl rfl rfl rfl rfl hok fun L v w D I=>al_E rfl fun c h=>⟨trivial,rfl,c,rfl,qa5 c h⟩
  ·intro L v w hL hD hC hI
   refine ⟨fun _=>?_,fun hw=>by cases hw⟩
   have h12 : isR (v 12) (okF U) (rtF U):=hI.val 12 (hD 12 (by decide))
   refine Inv.store_step hok hI hL (tk (some 14) 0 101 (some 15) (sz 4) (fun u=>isR u (okF U) (rtF U))) (by simp) rfl (by simp) (by intro k hk;cases hk;exact hD 14 (by decide)) ?_
   intro n cs hb hR hold
   change v 14 = .pointer (some ⟨n,0,none⟩) at hb
   rw [show qaj qul 15 = [(39,12),(6,14)] from rfl]
   obtain ⟨X,hX,hXR⟩:=h12
   exact st_E hR (qaq hold) _ _ rfl hb hX fun w' cs' hr he hk=>⟨trivial,hk,cs',hr,⟨X,he,hXR⟩⟩
  ·exact sV fun L v w D N I=>⟨(I.val 13 (D 13 rfl)),Ext.refl _⟩
  intro L v5 W5 hL hI
  obtain ⟨x6,hb_x6,lo_x6,R_x6⟩:=hI.made 0 rfl (hL 14 (by decide)) (hL 15 (by decide))
  replace R_n1:=R_n1.keep0 hI.keep
  replace R_r:=R_r.keep0 hI.keep
  replace R_y5:=R_y5.keep0 hI.keep
  have ne_n1_x6:=Nat.ne_of_lt (Nat.lt_of_lt_of_le lt_n1 lo_x6)
  have ne_r_x6:=Nat.ne_of_lt (Nat.lt_of_lt_of_le lt_r lo_x6)
  have ne_y5_x6:=Nat.ne_of_lt (Nat.lt_of_lt_of_le lt_y5 lo_x6)
  replace lt_n1:=ltk lt_n1 hI.keep.size
  replace lt_r:=ltk lt_r hI.keep.size
  replace lt_y5:=ltk lt_y5 hI.keep.size
  replace hx:=hx.trans hI.keep.to_ext
  have hs_7_7 : (v5 16) = .bool (okF U):=hI.val 16 (hL 16 (by decide))
  clear hI hL hok L
  simp only [putP,Act.put,zA,zB,zC,hb_x6,hs_7_7]
  obtain ⟨X,R_X,hXR⟩:=RV.isR R_x6
  clear R_x6
  have R_x6:=R_X
  clear R_X
  go_upto_region 8 with fail
  have hok : TrsOk [] W5.heap.size ([(tk (some 2) 0 22 (some 3) (sz 32) (fun u=>u = .agg (qab (fb (X)))))] : List Trk):=⟨by simp [tk],by simp [tk],by simp [tk],by simp [tk]⟩
  refine qac (Inv [] (fun j u=>match j with | 0=>isE u (X) | 1=>u = .agg (qab (fb (X))) | _=>True) [(tk (some 2) 0 22 (some 3) (sz 32) (fun u=>u = .agg (qab (fb (X)))))] W5) qum [(41,0),(42,1),(8,2)] 66 rfl (by kernel_rfl) (Inv.start0 hok (by simp)) ⟨?_,?_,?_,?_,trivial⟩ ?_
  ·exact sV fun L v w D N I=>ld_E (R_x6.keep0 I.keep) _ rfl rfl ldK
  ·exact sV fun L v w D N I=>gOut _ _ rfl rfl (qaf (eout (I.val 0 (D 0 rfl)) w))
  ·exact qa7 0 rfl rfl rfl rfl rfl hok fun L v w D I=>al_B rfl fun c h=>⟨trivial,rfl,c,rfl,qa5 c h⟩
  ·exact qcv 0 2 rfl rfl rfl rfl rfl rfl hok fun L v w D I n cs hb hR ho=>st_B hR (qaq ho) _ _ rfl hb (I.val 1 (D 1 rfl)) fun _ c a b k=>⟨trivial,k,c,a,b⟩
  intro L v6 W6 hL hI
  obtain ⟨n8,hb_n8,lo_n8,R_n8⟩:=hI.made 0 rfl (hL 2 (by decide)) (hL 3 (by decide))
  have lt_x6:=R_x6.lt
  replace R_n1:=R_n1.keep0 hI.keep
  replace R_r:=R_r.keep0 hI.keep
  replace R_y5:=R_y5.keep0 hI.keep
  replace R_x6:=R_x6.keep0 hI.keep
  have ne_n1_n8:=Nat.ne_of_lt (Nat.lt_of_lt_of_le lt_n1 lo_n8)
  have ne_r_n8:=Nat.ne_of_lt (Nat.lt_of_lt_of_le lt_r lo_n8)
  have ne_y5_n8:=Nat.ne_of_lt (Nat.lt_of_lt_of_le lt_y5 lo_n8)
  have ne_x6_n8:=Nat.ne_of_lt (Nat.lt_of_lt_of_le lt_x6 lo_n8)
  replace lt_n1:=ltk lt_n1 hI.keep.size
  replace lt_r:=ltk lt_r hI.keep.size
  replace lt_y5:=ltk lt_y5 hI.keep.size
  have bs_n8:=Nat.le_trans hx.size lo_n8
  have lt_n8:=R_n8.lt
  replace hx:=hx.trans hI.keep.to_ext
  clear hI hL hok L
  simp only [putP,Act.put,zA,zB,zC,hb_n8]
  have o8:=R_n8.opt
  cases hok : okF U
  ·skip
   have hdd : Hid (d = none):=Lib.hid (by rw [hd.out,if_neg (by rw [hok];decide)])
   go_upto_region 10 with fail
   have hok : TrsOk [r] W6.heap.size ([(tk (none) r 49 (some 2) (sz 64) (fun u=>u = .agg (pc (fun _=>0) (fun _=>0))))] : List Trk):=⟨by simp [tk,R_r.lt],by simp [tk],by simp [tk],by simp [tk]⟩
   refine qac (Inv [r] (fun j u=>match j with | 0=>u = .agg (pc (fun _=>0) (fun _=>0)) | 1=>u = .iface 98 (.int .i64 29) | 3=>u = .iface 98 (.int .i64 29) | _=>True) [(tk (none) r 49 (some 2) (sz 64) (fun u=>u = .agg (pc (fun _=>0) (fun _=>0))))] W6) que [(55,0),(56,1),(3,3)] 66 rfl (by kernel_rfl) (Inv.start0 hok (by
     simp only [zD,zE,zF,zG,zH]
     exact fun _=>R_r)) ⟨?_,?_,?_,?_,trivial⟩ ?_
   ·exact sV fun L v w D N I=>qct rfl ⟨rfl,Ext.refl _⟩
   ·intro L v w hL hD hC hI
    refine ⟨fun _=>?_,fun hw=>by cases hw⟩
    refine hI.val_step hL (by simp) ?_
    rw [show qaj que 1 = [] from rfl]
    go_simp
    exact ⟨rfl,Ext.refl _⟩
   ·exact s_put 0 rfl rfl rfl rfl rfl hok fun L v w D I cs hR ho=>st_P hR (qaq ho) _ _ rfl rfl (I.val 0 (D 0 rfl)) fun _ c a b k=>⟨trivial,k,c,a,b⟩
   ·exact sV fun L v w D N I=>⟨(I.val 1 (D 1 rfl)),Ext.refl _⟩
   intro L v7 W7 hL hI
   replace R_n1:=R_n1.keep1 hI.keep ne_n1_r
   replace R_y5:=R_y5.keep1 hI.keep (Ne.symm ne_r_y5)
   replace R_x6:=R_x6.keep1 hI.keep (Ne.symm ne_r_x6)
   replace R_n8:=R_n8.keep1 hI.keep (Ne.symm ne_r_n8)
   replace R_r:=hI.new 0 rfl (hL 2 (by decide))
   replace lt_n1:=ltk lt_n1 hI.keep.size
   replace lt_r:=ltk lt_r hI.keep.size
   replace lt_y5:=ltk lt_y5 hI.keep.size
   replace lt_n8:=ltk lt_n8 hI.keep.size
   replace hx:=hx.keep1 hI.keep bs_r
   have hs_3_10 : (v7 3) = .iface 98 (.int .i64 29):=hI.val 3 (hL 3 (by decide))
   clear hI hL hok L
   simp only [putP,Act.put,zA,zB,zC,hs_3_10]
   go_wp2
   refine bodyPost_ret (qbf rfl _ R_r rfl) rfl ?_
   refine ⟨?_,hx⟩
   rw [hdd.out,qgs]
   rfl
  ·have hdl:=hd.out
   rw [if_pos hok] at hdl
   obtain rfl:=hXR hok
   clear hd hok hXR
   by_cases ho1 : (o == 1) = true
   ·rw [if_pos ho1] at hdl
    by_cases hz : rtF U = 0
    ·rw [if_pos hz] at hdl
     have hbz : beqb (fb (rtF U)) (fun _=>0) = true:=by rw [← fb_0,qmi,hz];rfl
     have hdd : Hid (d = none):=Lib.hid hdl
     clear hdl
     go_upto_region 10 with fail
     have hok : TrsOk [r] W6.heap.size ([(tk (none) r 49 (some 2) (sz 64) (fun u=>u = .agg (pc (fun _=>0) (fun _=>0))))] : List Trk):=⟨by simp [tk,R_r.lt],by simp [tk],by simp [tk],by simp [tk]⟩
     refine qac (Inv [r] (fun j u=>match j with | 0=>u = .agg (pc (fun _=>0) (fun _=>0)) | 1=>u = .iface 98 (.int .i64 29) | 3=>u = .iface 98 (.int .i64 29) | _=>True) [(tk (none) r 49 (some 2) (sz 64) (fun u=>u = .agg (pc (fun _=>0) (fun _=>0))))] W6) que [(55,0),(56,1),(3,3)] 66 rfl (by kernel_rfl) (Inv.start0 hok (by
       simp only [zD,zE,zF,zG,zH]
       exact fun _=>R_r)) ⟨?_,?_,?_,?_,trivial⟩ ?_
     ·exact sV fun L v w D N I=>qct rfl ⟨rfl,Ext.refl _⟩
     ·intro L v w hL hD hC hI
      refine ⟨fun _=>?_,fun hw=>by cases hw⟩
      refine hI.val_step hL (by simp) ?_
      rw [show qaj que 1 = [] from rfl]
      go_simp
      exact ⟨rfl,Ext.refl _⟩
     ·exact s_put 0 rfl rfl rfl rfl rfl hok fun L v w D I cs hR ho=>st_P hR (qaq ho) _ _ rfl rfl (I.val 0 (D 0 rfl)) fun _ c a b k=>⟨trivial,k,c,a,b⟩
     ·exact sV fun L v w D N I=>⟨(I.val 1 (D 1 rfl)),Ext.refl _⟩
     intro L v7 W7 hL hI
     replace R_n1:=R_n1.keep1 hI.keep ne_n1_r
     replace R_y5:=R_y5.keep1 hI.keep (Ne.symm ne_r_y5)
     replace R_x6:=R_x6.keep1 hI.keep (Ne.symm ne_r_x6)
     replace R_n8:=R_n8.keep1 hI.keep (Ne.symm ne_r_n8)
     replace R_r:=hI.new 0 rfl (hL 2 (by decide))
     replace lt_n1:=ltk lt_n1 hI.keep.size
     replace lt_r:=ltk lt_r hI.keep.size
     replace lt_y5:=ltk lt_y5 hI.keep.size
     replace lt_n8:=ltk lt_n8 hI.keep.size
     replace hx:=hx.keep1 hI.keep bs_r
     have hs_3_10 : (v7 3) = .iface 98 (.int .i64 29):=hI.val 3 (hL 3 (by decide))
     clear hI hL hok L
     simp only [putP,Act.put,zA,zB,zC,hs_3_10]
     go_wp2
     refine bodyPost_ret (qbf rfl _ R_r rfl) rfl ?_
     refine ⟨?_,hx⟩
     rw [hdd.out,qgs]
     rfl
    ·rw [if_neg hz] at hdl
     replace hdl:=Lib.hid hdl
     have hbz : beqb (fb (rtF U)) (fun _=>0) = false:=by rw [← fb_0,qmi,decide_eq_false hz]
     go_upto_region 12 with fail
     have hok : TrsOk [n8] W6.heap.size ([(tk (none) n8 22 (some 3) (fun u=>u = .agg (qab (fb (rtF U)))) (fun u=>u = .agg (qab (fb (tf (V (fun _=>0)) - tf (V (fb (rtF U))))))))] : List Trk):=⟨by simp [tk,R_n8.lt],by simp [tk],by simp [tk],by simp [tk]⟩
     refine qac (Inv [n8] (fun j u=>match j with | 0=>u = .agg (qab (fun _=>0)) | 1=>u = .agg (qab (fb (rtF U))) | 2=>u = .agg (qab (fb (tf (V (fun _=>0)) - tf (V (fb (rtF U)))))) | _=>True) [(tk (none) n8 22 (some 3) (fun u=>u = .agg (qab (fb (rtF U)))) (fun u=>u = .agg (qab (fb (tf (V (fun _=>0)) - tf (V (fb (rtF U))))))))] W6) quf [(60,0),(61,1),(62,2)] 66 rfl (by kernel_rfl) (Inv.start0 hok (by
       simp only [zD,zE,zF,zG,zH]
       exact fun _=>R_n8)) ⟨?_,?_,?_,?_,trivial⟩ ?_
     ·exact sV fun L v w D N I=>bd_B0 rfl ldK
     ·exact sV fun L v w D N I=>ld_B (I.old 0 rfl (N 3 rfl)) _ rfl rfl ldK
     ·exact sV fun L v w D N I=>gfSub _ _ rfl rfl (qai (qaf (fsubF (fun _=>0) (fb (rtF U)) w)) (ar2 (I.val 0 (D 0 rfl)) (I.val 1 (D 1 rfl))))
     ·exact s_put 0 rfl rfl rfl rfl rfl hok fun L v w D I cs hR ho=>st_B hR (by rw [qgb ho];simp) _ _ rfl rfl (I.val 2 (D 2 rfl)) fun _ c a b k=>⟨trivial,k,c,a,b⟩
     intro L v7 W7 hL hI
     replace R_n1:=R_n1.keep1 hI.keep ne_n1_n8
     replace R_r:=R_r.keep1 hI.keep ne_r_n8
     replace R_y5:=R_y5.keep1 hI.keep ne_y5_n8
     replace R_x6:=R_x6.keep1 hI.keep ne_x6_n8
     replace R_n8:=hI.new 0 rfl (hL 3 (by decide))
     replace lt_n1:=ltk lt_n1 hI.keep.size
     replace lt_r:=ltk lt_r hI.keep.size
     replace lt_y5:=ltk lt_y5 hI.keep.size
     replace lt_n8:=ltk lt_n8 hI.keep.size
     replace hx:=hx.keep1 hI.keep bs_n8
     clear hI hL hok L
     simp only [putP,Act.put,zA,zB,zC]
     go_upto_region 13 with fail
     have hok : TrsOk [r] W7.heap.size ([(tk (none) r 49 (some 3) (sz 64) (fun u=>u = .agg (pc (fb (tf (V (fun _=>0)) - tf (V (fb (rtF U))))) (g))))] : List Trk):=⟨by simp [tk,R_r.lt],by simp [tk],by simp [tk],by simp [tk]⟩
     refine qac (Inv [r] (fun j u=>match j with | 0=>u = .agg (qab (fb (tf (V (fun _=>0)) - tf (V (fb (rtF U)))))) | 1=>u = .agg (qab (g)) | 2=>u = .agg (pc (fb (tf (V (fun _=>0)) - tf (V (fb (rtF U))))) (g)) | 4=>u = .nilIface | _=>True) [(tk (none) r 49 (some 3) (sz 64) (fun u=>u = .agg (pc (fb (tf (V (fun _=>0)) - tf (V (fb (rtF U))))) (g))))] W7) qug [(63,0),(64,1),(65,2),(3,4)] 66 rfl (by kernel_rfl) (Inv.start0 hok (by
       simp only [zD,zE,zF,zG,zH]
       exact fun _=>R_r)) ⟨?_,?_,?_,?_,?_,trivial⟩ ?_
     ·exact sV fun L v w D N I=>ld_B (R_n8.keep1 I.keep (Ne.symm ne_r_n8)) _ rfl rfl ldK
     ·exact sV fun L v w D N I=>ld_B (R_n1.keep1 I.keep ne_n1_r) _ rfl rfl ldK
     ·exact sV fun L v w D N I=>bd_P _ _ rfl (I.val 0 (D 0 rfl)) (I.val 1 (D 1 rfl)) ldK
     ·exact s_put 0 rfl rfl rfl rfl rfl hok fun L v w D I cs hR ho=>st_P hR (qaq ho) _ _ rfl rfl (I.val 2 (D 2 rfl)) fun _ c a b k=>⟨trivial,k,c,a,b⟩
     ·exact sV fun L v w D N I=>⟨rfl,Ext.refl _⟩
     intro L v8 W8 hL hI
     replace R_n1:=R_n1.keep1 hI.keep ne_n1_r
     replace R_y5:=R_y5.keep1 hI.keep (Ne.symm ne_r_y5)
     replace R_x6:=R_x6.keep1 hI.keep (Ne.symm ne_r_x6)
     replace R_n8:=R_n8.keep1 hI.keep (Ne.symm ne_r_n8)
     replace R_r:=hI.new 0 rfl (hL 3 (by decide))
     replace lt_n1:=ltk lt_n1 hI.keep.size
     replace lt_r:=ltk lt_r hI.keep.size
     replace lt_y5:=ltk lt_y5 hI.keep.size
     replace lt_n8:=ltk lt_n8 hI.keep.size
     replace hx:=hx.keep1 hI.keep bs_r
     have hs_3_13 : (v8 4) = .nilIface:=hI.val 4 (hL 4 (by decide))
     clear hI hL hok L
     simp only [putP,Act.put,zA,zB,zC,hs_3_13]
     go_wp2
     refine bodyPost_ret (qbf rfl _ R_r rfl) rfl ?_
     refine ⟨?_,hx⟩
     rw [hdl.out,qii,hyg.out,← pc_low hlt,qbw,V_z]
     rfl
   ·rw [if_neg ho1] at hdl
    have ho2 : (o == 1) = false:=by simpa using ho1
    replace hdl:=Lib.hid hdl
    go_upto_region 13 with fail
    have hok : TrsOk [r] W6.heap.size ([(tk (none) r 49 (some 3) (sz 64) (fun u=>u = .agg (pc (fb (rtF U)) (g))))] : List Trk):=⟨by simp [tk,R_r.lt],by simp [tk],by simp [tk],by simp [tk]⟩
    refine qac (Inv [r] (fun j u=>match j with | 0=>u = .agg (qab (fb (rtF U))) | 1=>u = .agg (qab (g)) | 2=>u = .agg (pc (fb (rtF U)) (g)) | 4=>u = .nilIface | _=>True) [(tk (none) r 49 (some 3) (sz 64) (fun u=>u = .agg (pc (fb (rtF U)) (g))))] W6) qug [(63,0),(64,1),(65,2),(3,4)] 66 rfl (by kernel_rfl) (Inv.start0 hok (by
      simp only [zD,zE,zF,zG,zH]
      exact fun _=>R_r)) ⟨?_,?_,?_,?_,?_,trivial⟩ ?_
    ·exact sV fun L v w D N I=>ld_B (R_n8.keep1 I.keep (Ne.symm ne_r_n8)) _ rfl rfl ldK
    ·exact sV fun L v w D N I=>ld_B (R_n1.keep1 I.keep ne_n1_r) _ rfl rfl ldK
    ·exact sV fun L v w D N I=>bd_P _ _ rfl (I.val 0 (D 0 rfl)) (I.val 1 (D 1 rfl)) ldK
    ·exact s_put 0 rfl rfl rfl rfl rfl hok fun L v w D I cs hR ho=>st_P hR (qaq ho) _ _ rfl rfl (I.val 2 (D 2 rfl)) fun _ c a b k=>⟨trivial,k,c,a,b⟩
    ·exact sV fun L v w D N I=>⟨rfl,Ext.refl _⟩
    intro L v7 W7 hL hI
    replace R_n1:=R_n1.keep1 hI.keep ne_n1_r
    replace R_y5:=R_y5.keep1 hI.keep (Ne.symm ne_r_y5)
    replace R_x6:=R_x6.keep1 hI.keep (Ne.symm ne_r_x6)
    replace R_n8:=R_n8.keep1 hI.keep (Ne.symm ne_r_n8)
    replace R_r:=hI.new 0 rfl (hL 3 (by decide))
    replace lt_n1:=ltk lt_n1 hI.keep.size
    replace lt_r:=ltk lt_r hI.keep.size
    replace lt_y5:=ltk lt_y5 hI.keep.size
    replace lt_n8:=ltk lt_n8 hI.keep.size
    replace hx:=hx.keep1 hI.keep bs_r
    have hs_3_13 : (v7 4) = .nilIface:=hI.val 4 (hL 4 (by decide))
    clear hI hL hok L
    simp only [putP,Act.put,zA,zB,zC,hs_3_13]
    go_wp2
    refine bodyPost_ret (qbf rfl _ R_r rfl) rfl ?_
    refine ⟨?_,hx⟩
    rw [hdl.out,qii,hyg.out,← pc_low hlt]
    rfl
end Go.Proofs.YtgeihelkkhjjaaaGreatDoor
end
