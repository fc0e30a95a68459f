import Derived.Test.YtgeihelkkhjjaaaGreatDoorKKern
import Derived.Test.YtgeihelkkhjjaaaGreatDoorRows
import Derived.WalkSpells
import Derived.WalkLawsBesides
import Derived.Laws.Bits64b
import Derived.Shelf.Spec.BitsCarry
import Derived.Lib.Mul64
import Derived.Deep.QuietTactic
import Derived.BigQuiet
import Derived.StillTailTactics
import Derived.Deep.RegionWith
import Derived.Deep.LoopGhost
import Derived.LoopN
set_option linter.unusedSimpArgs false
set_option linter.unusedVariables false
set_option maxRecDepth 4000
set_option maxHeartbeats 4000000
section
namespace Go.Cv

def bc (c : Bool) : UInt64:=if c then 1 else 0
def bn (c : Bool) : Nat:=if c then 1 else 0
theorem qfl (c : Bool) : (bc c).toNat = bn c:=by cases c <;> rfl
theorem qou (c : Bool) : bn c ≤ 1:=by cases c <;> decide
theorem qkq (c : Bool) : n64 (bc c) = (bn c : Int):=by rw [qf2,qfl]
def adcS (x y : UInt64) (c : Bool) : UInt64:=x + y + bc c
def adcC (x y : UInt64) (c : Bool) : Bool:=decide (18446744073709551616 ≤ x.toNat + y.toNat + bn c)
theorem qdh (x y : UInt64) (c : Bool) : (adcS x y c).toNat + 18446744073709551616 * bn (adcC x y c) = x.toNat + y.toNat + bn c:=by
 have hx:=x.toNat_lt;have hy:=y.toNat_lt;have hc:=qou c
 have hs : (adcS x y c).toNat = (x.toNat + y.toNat + bn c) % 18446744073709551616:=by
  unfold adcS
  rw [UInt64.toNat_add,UInt64.toNat_add,qfl]
  simp
 rw [hs]
 unfold adcC
 by_cases h : 18446744073709551616 ≤ x.toNat + y.toNat + bn c
 ·rw [decide_eq_true h];simp only [bn,if_true];rw [show (if c = true then 1 else 0) = bn c from rfl];omega
 ·rw [decide_eq_false h];simp only [bn];rw [show (if c = true then 1 else 0) = bn c from rfl];simp only [Bool.false_eq_true,if_false];omega
def sbbS (x y : UInt64) (c : Bool) : UInt64:=x - y - bc c
def sbbC (x y : UInt64) (c : Bool) : Bool:=decide (x.toNat < y.toNat + bn c)
theorem qkg (x y : UInt64) (c : Bool) : (sbbS x y c).toNat = (x.toNat + 18446744073709551616 - y.toNat - bn c) % 18446744073709551616:=by
 have hx:=x.toNat_lt;have hy:=y.toNat_lt;have hc:=qou c
 unfold sbbS
 rw [UInt64.toNat_sub,UInt64.toNat_sub,qfl]
 simp
 omega
theorem qe3 (x y : UInt64) (c : Bool) : (sbbS x y c).toNat + y.toNat + bn c = x.toNat + 18446744073709551616 * bn (sbbC x y c):=by
 have hx:=x.toNat_lt;have hy:=y.toNat_lt;have hc:=qou c
 rw [qkg]
 unfold sbbC
 by_cases h : x.toNat < y.toNat + bn c
 ·rw [decide_eq_true h];rw [show bn true = 1 from rfl];omega
 ·rw [decide_eq_false h];rw [show bn false = 0 from rfl];omega
def mulH (x y : UInt64) : UInt64:=UInt64.ofNat (x.toNat * y.toNat / 18446744073709551616)
theorem qi0 (x y : UInt64) : (mulH x y).toNat = x.toNat * y.toNat / 18446744073709551616:=by
 have hx:=x.toNat_lt;have hy:=y.toNat_lt
 unfold mulH
 rw [UInt64.toNat_ofNat']
 apply Nat.mod_eq_of_lt
 rw [Nat.div_lt_iff_lt_mul (by decide)]
 exact Nat.mul_lt_mul'' hx hy
theorem mul_law (x y : UInt64) : (x * y).toNat + 18446744073709551616 * (mulH x y).toNat = x.toNat * y.toNat:=by
 rw [qi0,UInt64.toNat_mul]
 have:=Nat.mod_add_div (x.toNat * y.toNat) 18446744073709551616
 simpa using this
@[go_sem] theorem gtr_bc (c : Bool) : decide ((0 : Int) < n64 (bc c)) = c:=by
 rw [qkq];cases c <;> rfl
end Go.Cv

namespace Go.Proofs.YtgeihelkkhjjaaaGreatDoor
open Go.RowKit Go.Cv Go.Shelf

theorem add64 (x y : UInt64) (c : Bool) (w : World) : (callFunc 48 #[.int .u64 (n64 x),.int .u64 (n64 y),.int .u64 (n64 (bc c))]).run Tryz.prog w =
  .ok (.value (.tuple #[.int .u64 (n64 (adcS x y c)),.int .u64 (n64 (bc (adcC x y c)))])) w:=by
 have hx:=qqg x;have hy:=qqg y
 have hc:=qou c
 have hl:=qdh x y c
 have hS:=(adcS x y c).toNat_lt
 have hC:=qou (adcC x y c)
 rw [run_callFunc_extern Tryz.func48 (by kernel_rfl) (by kernel_rfl) (by kernel_rfl) (e:=add64Entry) (by kernel_rfl),qkq,
  run_add64 _ _ _ hx.1 hy.1 (by omega) (by omega)]
 simp only [Result.andThen]
 have e1 : (n64 x + n64 y + (bn c : Int)) % 18446744073709551616 = n64 (adcS x y c):=by simp only [qf2];omega
 have e2 : (n64 x + n64 y + (bn c : Int)) / 18446744073709551616 = n64 (bc (adcC x y c)):=by rw [qkq];simp only [qf2];omega
 rw [e1,e2]
theorem qbb (x y : UInt64) (w : World) : (callFunc 48 #[.int .u64 (n64 x),.int .u64 (n64 y),.int .u64 0]).run Tryz.prog w =
  .ok (.value (.tuple #[.int .u64 (n64 (adcS x y false)),.int .u64 (n64 (bc (adcC x y false)))])) w:=add64 x y false w
theorem add64_y0 (x : UInt64) (c : Bool) (w : World) : (callFunc 48 #[.int .u64 (n64 x),.int .u64 0,.int .u64 (n64 (bc c))]).run Tryz.prog w =
  .ok (.value (.tuple #[.int .u64 (n64 (adcS x 0 c)),.int .u64 (n64 (bc (adcC x 0 c)))])) w:=add64 x 0 c w

theorem sub64 (x y : UInt64) (c : Bool) (w : World) : (callFunc 78 #[.int .u64 (n64 x),.int .u64 (n64 y),.int .u64 (n64 (bc c))]).run Tryz.prog w =
  .ok (.value (.tuple #[.int .u64 (n64 (sbbS x y c)),.int .u64 (n64 (bc (sbbC x y c)))])) w:=by
 have hx:=x.toNat_lt;have hy:=y.toNat_lt
 have hc:=qou c
 have hl:=qkg x y c
 rw [run_callFunc_extern Tryz.func78 (by kernel_rfl) (by kernel_rfl) (by kernel_rfl) (e:=sub64Entry) (by kernel_rfl),qkq,
  qf2,qf2,run_sub64 _ _ _ hc]
 simp only [Result.andThen]
 rw [← hl,qkq]
 have e2 : (if x.toNat < y.toNat + bn c then 1 else 0) = bn (sbbC x y c):=by
  unfold sbbC bn
  split <;> simp_all
 rw [e2]
 rfl
theorem sub64_c0 (x y : UInt64) (w : World) : (callFunc 78 #[.int .u64 (n64 x),.int .u64 (n64 y),.int .u64 0]).run Tryz.prog w =
  .ok (.value (.tuple #[.int .u64 (n64 (sbbS x y false)),.int .u64 (n64 (bc (sbbC x y false)))])) w:=sub64 x y false w

theorem maskN (a : Nat) (ha : a < 18446744073709551616) : bits .and .u64 (a : Int) 4294967295 = ((a % 4294967296 : Nat) : Int):=by
 have h:=bits_and_u64_nat a 4294967295 ha (by omega)
 have e : a &&& 4294967295 = a % 4294967296:=Nat.and_two_pow_sub_one_eq_mod a 32
 rw [e] at h
 exact h
theorem divN (a : Nat) : (a : Int) / 4294967296 = ((a / 4294967296 : Nat) : Int):=by omega
theorem mulN (a b : Nat) : (a : Int) * (b : Int) = ((a * b : Nat) : Int):=(Int.natCast_mul a b).symm
theorem addN (a b : Nat) : (a : Int) + (b : Int) = ((a + b : Nat) : Int):=(Int.natCast_add a b).symm
theorem wrapN (a : Nat) (ha : a < 18446744073709551616) : IntKind.u64.wrap (a : Int) = (a : Int):=by rw [IntKind.wrap_u64];omega
theorem wrapM (a : Nat) : IntKind.u64.wrap (a : Int) = ((a % 18446744073709551616 : Nat) : Int):=by rw [IntKind.wrap_u64];omega

attribute [-go_sem] Go.Cv.wrap_u64_any Go.Cv.u64_and Go.Cv.u64_or Go.Cv.u64_xor Go.Cv.u64_andNot Go.Cv.shl_u64 Go.Cv.shr_u64 Go.Cv.u64_tdiv Go.Cv.u64_tmod Go.Cv.cast_n64 in
theorem qqj (x y : Nat) (hx : x < 18446744073709551616) (hy : y < 18446744073709551616) (w : World) :
  Calls Tryz.prog 47 #[.int .u64 x,.int .u64 y] w fun e w'=>e = .returned (.tuple #[.int .u64 ((x * y / 18446744073709551616 : Nat) : Int),.int .u64 ((x * y % 18446744073709551616 : Nat) : Int)])∧w' = w:=by
 obtain ⟨bd,bt,bw,hhi⟩:=Lib.mul64_hi x y hx hy
 have ba:=Lib.half_mul_le (a:=x / 4294967296) (b:=y / 4294967296) (by omega) (by omega)
 have bb:=Lib.half_mul_le (a:=x / 4294967296) (b:=y % 4294967296) (by omega) (by omega)
 have bcc:=Lib.half_mul_le (a:=x % 4294967296) (b:=y / 4294967296) (by omega) (by omega)
 have ba' : x / 4294967296 * (y / 4294967296) < 18446744073709551616:=by omega
 have bb' : x / 4294967296 * (y % 4294967296) < 18446744073709551616:=by omega
 have bc' : x % 4294967296 * (y / 4294967296) < 18446744073709551616:=by omega
 have bh1 : x / 4294967296 * (y / 4294967296) + (x / 4294967296 * (y % 4294967296) + x % 4294967296 * (y % 4294967296) / 4294967296) / 4294967296 < 18446744073709551616:=by omega
 have bh : x / 4294967296 * (y / 4294967296) + (x / 4294967296 * (y % 4294967296) + x % 4294967296 * (y % 4294967296) / 4294967296) / 4294967296 + ((x / 4294967296 * (y % 4294967296) + x % 4294967296 * (y % 4294967296) / 4294967296) % 4294967296 + x % 4294967296 * (y / 4294967296)) / 4294967296 < 18446744073709551616:=by omega
 go_enter Tryz.func47,Tryz.ntmps47
 go_wp2
 simp only [maskN x hx,maskN y hy,divN,mulN,addN,wrapN _ bd,wrapN _ bb',wrapN _ bt,maskN _ bt,wrapN _ bc',wrapN _ bw,wrapN _ ba',wrapN _ bh1,wrapN _ bh,wrapM (x * y)]
 rw [hhi]
 go_ret2
 exact ⟨rfl,rfl⟩
theorem qe1 (x y : UInt64) (w : World) :
  Calls Tryz.prog 47 #[.int .u64 (n64 x),.int .u64 (n64 y)] w fun e w'=>e = .returned (.tuple #[.int .u64 (n64 (mulH x y)),.int .u64 (n64 (x * y))])∧w' = w:=by
 refine (qqj x.toNat y.toNat x.toNat_lt y.toNat_lt w).mono ?_
 rintro e w' ⟨rfl,rfl⟩
 refine ⟨?_,rfl⟩
 rw [qf2,qf2,qi0,UInt64.toNat_mul]
end Go.Proofs.YtgeihelkkhjjaaaGreatDoor
end
section
namespace Go.Cv
def val4 (a b c d : UInt64) : Nat:=a.toNat + 18446744073709551616 * (b.toNat + 18446744073709551616 * (c.toNat + 18446744073709551616 * d.toNat))
theorem qdf (a b c d : UInt64) : val4 a b c d < 2 ^ 256:=by
 have:=a.toNat_lt;have:=b.toNat_lt;have:=c.toNat_lt;have:=d.toNat_lt
 unfold val4;omega
@[reducible] def Eqp (a b : Nat) : Prop:=a % (2 ^ 255 - 19) = b % (2 ^ 255 - 19)
@[reducible] def w4 (a b c d : UInt64) : Array Value:=#[.int .u64 (n64 a),.int .u64 (n64 b),.int .u64 (n64 c),.int .u64 (n64 d)]
@[reducible] def el (a b c d : UInt64) : Value:=.agg (w4 a b c d)
end Go.Cv
namespace Go.Proofs.YtgeihelkkhjjaaaGreatDoor
open Go.RowKit Go.Cv

theorem qho (a b c d n : UInt64) (w : World) :
  Calls Tryz.prog 102 #[el a b c d,.int .u64 (n64 n)] w fun e w'=>∃ s0 s1 s2 s3 k,e = .returned (.tuple #[el s0 s1 s2 s3,.int .u64 (n64 (bc k))]) ∧
   val4 s0 s1 s2 s3 + 2 ^ 256 * bn k = val4 a b c d + n.toNat∧Ext w w':=by
 go_enter Tryz.func102,Tryz.ntmps102
 go_wp2_with (first | simp only [qbb] | simp only [add64_y0])
 refine bodyPost_ret_by (by simp [results,Tryz.results102,go_sem];rfl) rfl ?_
 refine ⟨_,_,_,_,_,rfl,?_,(qaa _ _).trans (qaa _ _)⟩
 have h0:=qdh a n false
 have h1:=qdh b 0 (adcC a n false)
 have h2:=qdh c 0 (adcC b 0 (adcC a n false))
 have h3:=qdh d 0 (adcC c 0 (adcC b 0 (adcC a n false)))
 have z : (0 : UInt64).toNat = 0:=rfl
 have f : bn false = 0:=rfl
 unfold val4
 omega
theorem more_38 (a b c d : UInt64) (w : World) :
  Calls Tryz.prog 102 #[el a b c d,.int .u64 38] w fun e w'=>∃ s0 s1 s2 s3 k,e = .returned (.tuple #[el s0 s1 s2 s3,.int .u64 (n64 (bc k))]) ∧
   val4 s0 s1 s2 s3 + 2 ^ 256 * bn k = val4 a b c d + 38∧Ext w w':=qho a b c d 38 w
theorem more_19 (a b c d : UInt64) (w : World) :
  Calls Tryz.prog 102 #[el a b c d,.int .u64 19] w fun e w'=>∃ s0 s1 s2 s3 k,e = .returned (.tuple #[el s0 s1 s2 s3,.int .u64 (n64 (bc k))]) ∧
   val4 s0 s1 s2 s3 + 2 ^ 256 * bn k = val4 a b c d + 19∧Ext w w':=qho a b c d 19 w

theorem fold38 {x y k : Nat} (h : y + 2 ^ 256 * k = x) : Eqp (y + 38 * k) x:=by
 subst h
 unfold Eqp
 omega

theorem qr0 (a b c d a' b' c' d' : UInt64) (w : World) :
  Calls Tryz.prog 88 #[el a b c d,el a' b' c' d'] w fun e w'=>∃ s0 s1 s2 s3,e = .returned (el s0 s1 s2 s3) ∧
   Eqp (val4 s0 s1 s2 s3) (val4 a b c d + val4 a' b' c' d')∧Ext w w':=by
 go_enter Tryz.func88,Tryz.ntmps88
 go_wp2_with (first | simp only [qbb] | simp only [add64])
 go_loopg [5] 2 (fun g k wr=>∃ (s0 s1 s2 s3 : UInt64) (q : Bool) (l : Nat × Array Obj),k = .int .u64 (n64 (bc q)) ∧
  wr = grw (((w.alloc (.cells (w4 s0 s1 s2 s3) 101)).alloc (.cells (w4 a' b' c' d') 101)).alloc (.cells (w4 0 0 0 0) 101)) l ∧
  Eqp (val4 s0 s1 s2 s3 + 38 * bn q) (val4 a b c d + val4 a' b' c' d')∧(q = true→1 ≤ g∧(g = 1→val4 s0 s1 s2 s3 < 38)))
 case atStart =>
  refine ⟨_,_,_,_,_,_,rfl,qd1 _,?_,fun _=>⟨by decide,fun h=>absurd h (by decide)⟩⟩
  have h0:=qdh a a' false
  have h1:=qdh b b' (adcC a a' false)
  have h2:=qdh c c' (adcC b b' (adcC a a' false))
  have h3:=qdh d d' (adcC c c' (adcC b b' (adcC a a' false)))
  have f : bn false = 0:=rfl
  refine fold38 ?_
  unfold val4
  omega
 case round =>
  obtain ⟨s0,s1,s2,s3,q,l,rfl,rfl,hv,hq⟩:=hrel
  cases q with
  | false =>
   have HV:=Lib.hid hv
   clear hv hq
   go_wp2
   refine bodyPost_ret_by (by simp [results,Tryz.results88,go_sem];rfl) rfl ?_
   exact ⟨_,_,_,_,rfl,HV.out,(((qaa _ _).trans (qaa _ _)).trans (qaa _ _)).trans (qad _ _)⟩
  | true =>
   have HV:=Lib.hid hv
   have HQ:=Lib.hid (hq rfl)
   clear hv hq
   go_wp2_with (go_at_call 102;with_reducible refine (more_38 _ _ _ _ _).mono ?_;rintro e w' ⟨t0,t1,t2,t3,q',rfl,ht,hx⟩;obtain ⟨l',rfl⟩:=qah hx;clear hx)
   have hb:=HQ.out
   have hv:=HV.out
   have hl:=qdf s0 s1 s2 s3
   go_roundg (gk - 1)
   case measure=>omega
   case rel =>
    refine ⟨t0,t1,t2,t3,q',_,rfl,rfl,?_,?_⟩
    ·refine (fold38 ht).trans ?_
     exact hv
    ·intro hq'
     subst hq'
     have e1 : bn true = 1:=rfl
     by_cases hg : gk = 1
     ·have:=hb.2 hg
      omega
     ·exact ⟨by omega,fun _=>by omega⟩
end Go.Proofs.YtgeihelkkhjjaaaGreatDoor
end
section
namespace Go.Proofs.YtgeihelkkhjjaaaGreatDoor
open Go.RowKit Go.Cv

theorem sub_step {s t f A B k q : Nat} (hv : Eqp (s + B) (A + f)) (h : t + f = s + 2 ^ 256 * q) : Eqp (t + B) (A + q * 38):=by
 unfold Eqp at *
 omega

theorem qlp (a b c d a' b' c' d' : UInt64) (w : World) :
  Calls Tryz.prog 86 #[el a b c d,el a' b' c' d'] w fun e w'=>∃ s0 s1 s2 s3,e = .returned (el s0 s1 s2 s3) ∧
   Eqp (val4 s0 s1 s2 s3 + val4 a' b' c' d') (val4 a b c d)∧Ext w w':=by
 go_enter Tryz.func86,Tryz.ntmps86
 go_wp2
 go_loopg [5] 3 (fun g k wr=>∃ (s0 s1 s2 s3 t0 t1 t2 t3 : UInt64) (q : Bool),k = .int .u64 (n64 (bc q)) ∧
  wr = (((w.alloc (.cells (w4 s0 s1 s2 s3) 101)).alloc (.cells (w4 t0 t1 t2 t3) 101)).alloc (.cells (w4 0 0 0 0) 101)) ∧
  Eqp (val4 s0 s1 s2 s3 + val4 a' b' c' d') (val4 a b c d + bn q * val4 t0 t1 t2 t3)∧(q = true→1 ≤ g∧(g ≤ 2→val4 t0 t1 t2 t3 = 38)∧(g = 1→38 ≤ val4 s0 s1 s2 s3)))
 case atStart =>
  refine ⟨a,b,c,d,a',b',c',d',true,rfl,rfl,?_,fun _=>⟨by decide,fun h=>absurd h (by decide),fun h=>absurd h (by decide)⟩⟩
  rw [show bn true = 1 from rfl,Nat.one_mul]
 case round =>
  obtain ⟨s0,s1,s2,s3,t0,t1,t2,t3,q,rfl,rfl,hv,hq⟩:=hrel
  cases q with
  | false =>
   have HV:=Lib.hid hv
   clear hv hq
   go_wp2
   refine bodyPost_ret_by (by simp [results,Tryz.results86,go_sem];rfl) rfl ?_
   refine ⟨_,_,_,_,rfl,?_,((qaa _ _).trans (qaa _ _)).trans (qaa _ _)⟩
   have:=HV.out
   rw [show bn false = 0 from rfl,Nat.zero_mul,Nat.add_zero] at this
   exact this
  | true =>
   have HV:=Lib.hid hv
   have HQ:=Lib.hid (hq rfl)
   clear hv hq
   go_wp2_with (first | simp only [sub64_c0] | simp only [sub64])
   have hb:=HQ.out
   have hv:=HV.out
   have hl:=qdf s0 s1 s2 s3
   have h0:=qe3 s0 t0 false
   have h1:=qe3 s1 t1 (sbbC s0 t0 false)
   have h2:=qe3 s2 t2 (sbbC s1 t1 (sbbC s0 t0 false))
   have h3:=qe3 s3 t3 (sbbC s2 t2 (sbbC s1 t1 (sbbC s0 t0 false)))
   have f : bn false = 0:=rfl
   have ht : val4 (sbbS s0 t0 false) (sbbS s1 t1 (sbbC s0 t0 false)) (sbbS s2 t2 (sbbC s1 t1 (sbbC s0 t0 false))) (sbbS s3 t3 (sbbC s2 t2 (sbbC s1 t1 (sbbC s0 t0 false)))) + val4 t0 t1 t2 t3 =
     val4 s0 s1 s2 s3 + 2 ^ 256 * bn (sbbC s3 t3 (sbbC s2 t2 (sbbC s1 t1 (sbbC s0 t0 false)))):=by
    unfold val4
    omega
   rw [show bn true = 1 from rfl,Nat.one_mul] at hv
   have h38 : val4 38 0 0 0 = 38:=rfl
   go_roundg (gk - 1)
   case measure=>omega
   case rel =>
    refine ⟨_,_,_,_,38,0,0,0,_,rfl,rfl,?_,?_⟩
    ·rw [h38]
     exact sub_step (k:=0) hv ht
    ·intro hq'
     rw [hq'] at ht
     rw [show bn true = 1 from rfl] at ht
     rw [h38]
     have ht4:=qdf t0 t1 t2 t3
     refine ⟨?_,fun _=>rfl,?_⟩
     ·by_cases hg : gk = 1
      ·have:=hb.2.1 (by omega)
       have:=hb.2.2 hg
       have:=qdf (sbbS s0 t0 false) (sbbS s1 t1 (sbbC s0 t0 false)) (sbbS s2 t2 (sbbC s1 t1 (sbbC s0 t0 false))) (sbbS s3 t3 (sbbC s2 t2 (sbbC s1 t1 (sbbC s0 t0 false))))
       omega
      ·omega
     ·intro hg
      have:=hb.2.1 (by omega)
      omega
end Go.Proofs.YtgeihelkkhjjaaaGreatDoor
end
section
namespace Go.Cv
def lvf (x : Nat→UInt64) : Nat→Nat
 | 0=>0
 | n + 1=>lvf x n + 2 ^ (64 * n) * (x n).toNat
def upd (x : Nat→UInt64) (j : Nat) (v : UInt64) : Nat→UInt64:=fun n=>if n = j then v else x n
theorem qgz (x : Nat→UInt64) (j : Nat) (v : UInt64) : ∀ n,n ≤ j→lvf (upd x j v) n = lvf x n
 | 0,_=>rfl
 | n + 1,h=>by
  simp only [lvf]
  rw [qgz x j v n (by omega)]
  rw [show upd x j v n = x n from if_neg (by omega)]
theorem qjv (x : Nat→UInt64) (j : Nat) (v : UInt64) : ∀ n,j < n→lvf (upd x j v) n + 2 ^ (64 * j) * (x j).toNat = lvf x n + 2 ^ (64 * j) * v.toNat
 | n + 1,h=>by
  simp only [lvf]
  by_cases hj : j = n
  ·subst hj
   rw [qgz x j v j (Nat.le_refl _),show upd x j v j = v from if_pos rfl]
   omega
  ·have:=qjv x j v n (by omega)
   rw [show upd x j v n = x n from if_neg (by omega)]
   omega
theorem lvf4 (x : Nat→UInt64) : lvf x 4 = val4 (x 0) (x 1) (x 2) (x 3):=by
 simp only [lvf,val4]
 omega
theorem ql6 (x : Nat→UInt64) (m : Nat) : ∀ n,lvf x (m + n) = lvf x m + 2 ^ (64 * m) * lvf (fun j=>x (m + j)) n
 | 0=>by simp [lvf]
 | n + 1=>by
  have ih:=ql6 x m n
  show lvf x (m + n) + 2 ^ (64 * (m + n)) * (x (m + n)).toNat = _
  rw [ih]
  simp only [lvf]
  rw [Nat.mul_add (2 ^ (64 * m)),← Nat.mul_assoc (2 ^ (64 * m)),← Nat.pow_add,show 64 * m + 64 * n = 64 * (m + n) from by omega]
  omega
theorem qna {x : Nat→UInt64} (h : ∀ j,x j = 0) : ∀ n,lvf x n = 0
 | 0=>rfl
 | n + 1=>by simp only [lvf];rw [qna h n,h n];rfl
def msLo (x y v c : UInt64) : UInt64:=adcS (adcS (x * y) v false) c false
def msHi (x y v c : UInt64) : UInt64:=mulH x y + bc (adcC (x * y) v false) + bc (adcC (adcS (x * y) v false) c false)
theorem qqk (x y v c : UInt64) : (msLo x y v c).toNat + 18446744073709551616 * (msHi x y v c).toNat = x.toNat * y.toNat + v.toNat + c.toNat:=by
 have hx:=x.toNat_lt;have hy:=y.toNat_lt;have hv:=v.toNat_lt;have hc:=c.toNat_lt
 have hm:=mul_law x y
 have h1:=qdh (x * y) v false
 have h2:=qdh (adcS (x * y) v false) c false
 have hb : x.toNat * y.toNat ≤ 18446744073709551615 * 18446744073709551615:=Nat.mul_le_mul (by omega) (by omega)
 have hl:=(adcS (adcS (x * y) v false) c false).toNat_lt
 have f : bn false = 0:=rfl
 unfold msLo msHi
 rw [UInt64.toNat_add,UInt64.toNat_add,qfl,qfl]
 rw [Nat.mod_add_mod]
 rw [Nat.mod_eq_of_lt (by omega)]
 omega
theorem mul_step {L A cr P x B F y v lo hi : Nat} {L' : Nat} (h : L + A * cr = P + x * B) (hl : L' + A * v = L + A * lo) (hm : lo + 18446744073709551616 * hi = x * y + v + cr) :
  L' + A * 18446744073709551616 * hi = P + x * (B + A * y):=by
 have e1 : A * (lo + 18446744073709551616 * hi) = A * lo + A * 18446744073709551616 * hi:=by rw [Nat.mul_add,Nat.mul_assoc]
 have e2 : A * (x * y + v + cr) = A * (x * y) + A * v + A * cr:=by rw [Nat.mul_add,Nat.mul_add]
 rw [hm] at e1
 have e3 : x * (B + A * y) = x * B + A * (x * y):=by rw [Nat.mul_add,Nat.mul_left_comm]
 omega
def qaz (x y ws : Nat→UInt64) (c : UInt64) (i k : Nat) : Prop :=
 lvf ws 8 + 2 ^ (64 * (i + k)) * c.toNat = lvf x i * lvf y 4 + (x i).toNat * (2 ^ (64 * i) * lvf y k)∧∀ j,i + 4 ≤ j→j < 8→ws j = 0
theorem qaz.start {x y ws : Nat→UInt64} {i : Nat} (h : lvf ws 8 = lvf x i * lvf y 4) (hz : ∀ j,i + 4 ≤ j→j < 8→ws j = 0) : qaz x y ws 0 i 0:=by
 refine ⟨?_,hz⟩
 rw [h]
 simp [lvf]
theorem qaz.step {x y ws : Nat→UInt64} {c : UInt64} {i k : Nat} (hi : i < 4) (hk : k < 4) (h : qaz x y ws c i k) :
  qaz x y (upd ws (i + k) (msLo (x i) (y k) (ws (i + k)) c)) (msHi (x i) (y k) (ws (i + k)) c) i (k + 1):=by
 obtain ⟨h1,h2⟩:=h
 have h3:=qjv ws (i + k) (msLo (x i) (y k) (ws (i + k)) c) 8 (by omega)
 have h4:=qqk (x i) (y k) (ws (i + k)) c
 have h5:=mul_step (F:=0) h1 h3 h4
 refine ⟨?_,fun j hj hj8=>?_⟩
 ·have e1 : 2 ^ (64 * (i + (k + 1))) = 2 ^ (64 * (i + k)) * 18446744073709551616:=by
   rw [show 64 * (i + (k + 1)) = 64 * (i + k) + 64 from by omega,Nat.pow_add]
  have e2 : 2 ^ (64 * i) * lvf y (k + 1) = 2 ^ (64 * i) * lvf y k + 2 ^ (64 * (i + k)) * (y k).toNat:=by
   simp only [lvf]
   rw [Nat.mul_add,← Nat.mul_assoc,← Nat.pow_add,show 64 * i + 64 * k = 64 * (i + k) from by omega]
  rw [e1,e2]
  exact h5
 ·rw [← h2 j hj hj8]
  exact if_neg (by omega)
theorem qaz.row {x y ws : Nat→UInt64} {c : UInt64} {i : Nat} (hi : i < 4) (h : qaz x y ws c i 4) :
  lvf (upd ws (i + 4) c) 8 = lvf x (i + 1) * lvf y 4∧∀ j,i + 1 + 4 ≤ j→j < 8→upd ws (i + 4) c j = 0:=by
 obtain ⟨h1,h2⟩:=h
 have h3:=qjv ws (i + 4) c 8 (by omega)
 rw [h2 (i + 4) (Nat.le_refl _) (by omega)] at h3
 refine ⟨?_,fun j hj hj8=>?_⟩
 ·have e : lvf x (i + 1) * lvf y 4 = lvf x i * lvf y 4 + (x i).toNat * (2 ^ (64 * i) * lvf y 4):=by
   simp only [lvf]
   rw [Nat.add_mul,Nat.mul_assoc,Nat.mul_left_comm]
  rw [e]
  rw [show (0 : UInt64).toNat = 0 from rfl,Nat.mul_zero,Nat.add_zero] at h3
  rw [h3]
  exact h1
 ·rw [← h2 j (by omega) hj8]
  exact if_neg (by omega)
def qbg (ws o : Nat→UInt64) (c : UInt64) (i : Nat) : Prop :=
 lvf o i + 2 ^ (64 * i) * c.toNat = lvf ws i + 38 * lvf (fun n=>ws (n + 4)) i
theorem qbg.step {ws o : Nat→UInt64} {c : UInt64} {i : Nat} (h : qbg ws o c i) :
  qbg ws (upd o i (msLo (ws (i + 4)) 38 (ws i) c)) (msHi (ws (i + 4)) 38 (ws i) c) (i + 1):=by
 unfold qbg at *
 have h4:=qqk (ws (i + 4)) 38 (ws i) c
 simp only [lvf]
 rw [qgz _ _ _ i (Nat.le_refl _),show upd o i (msLo (ws (i + 4)) 38 (ws i) c) i = msLo (ws (i + 4)) 38 (ws i) c from if_pos rfl]
 rw [show 64 * (i + 1) = 64 * i + 64 from by omega,Nat.pow_add]
 generalize 2 ^ (64 * i) = A at *
 rw [show (38 : UInt64).toNat = 38 from rfl] at h4
 generalize (ws (i + 4)).toNat = p at *
 generalize (msLo (ws (i + 4)) 38 (ws i) c).toNat = lo at *
 generalize (msHi (ws (i + 4)) 38 (ws i) c).toNat = hi at *
 have e1 : A * (lo + 18446744073709551616 * hi) = A * lo + A * 2 ^ 64 * hi:=by rw [Nat.mul_add,Nat.mul_assoc]
 rw [h4] at e1
 have e2 : A * (p * 38 + (ws i).toNat + c.toNat) = 38 * (A * p) + A * (ws i).toNat + A * c.toNat:=by
  rw [Nat.mul_add,Nat.mul_add,Nat.mul_comm p 38,Nat.mul_left_comm]
 omega
theorem qbg.done {x y ws o : Nat→UInt64} {c : UInt64} (hm : lvf ws 8 = lvf x 4 * lvf y 4) (h : qbg ws o c 4) :
  c.toNat ≤ 38∧Eqp (val4 (o 0) (o 1) (o 2) (o 3) + 38 * c.toNat) (lvf x 4 * lvf y 4):=by
 unfold qbg at h
 rw [lvf4,lvf4,lvf4] at h
 have h1:=qdf (ws 0) (ws 1) (ws 2) (ws 3)
 have h2:=qdf (ws 4) (ws 5) (ws 6) (ws 7)
 have h3 : lvf ws 8 = val4 (ws 0) (ws 1) (ws 2) (ws 3) + 2 ^ 256 * val4 (ws 4) (ws 5) (ws 6) (ws 7):=by
  have h:=ql6 ws 4 4
  rw [lvf4,lvf4] at h
  simp only [Nat.reduceAdd,Nat.reduceMul,Nat.add_zero] at h
  exact h
 rw [hm] at h3
 have h' : val4 (o 0) (o 1) (o 2) (o 3) + 2 ^ 256 * c.toNat = val4 (ws 0) (ws 1) (ws 2) (ws 3) + 38 * val4 (ws 4) (ws 5) (ws 6) (ws 7):=h
 generalize lvf x 4 * lvf y 4 = M at *
 refine ⟨by omega,?_⟩
 unfold Eqp
 omega
end Go.Cv
namespace Go.Proofs.YtgeihelkkhjjaaaGreatDoor
open Go.RowKit Go.Cv

@[reducible] def uw (x : UInt64) : Value:=.int .u64 (n64 x)
theorem u73 : Tryz.prog.underlying 101 = some (.array 4 73):=by kernel_rfl
theorem qnh (c : Array Value) (i : Nat) (x : Value) (hi : i < 4) (hv : c[i]? = some x) (w : World) : (Instr.index 101 (.agg c) (.int .i64 (i : Int))).run Tryz.prog w = .ok x w:=by
 simp [Instr.index,run_underlying u73,asIntOf,go_sem]
 rw [if_pos hi,hv]
 rfl
@[go_sem] theorem idx0 (a b c d : Value) (w : World) : (Instr.index 101 (.agg #[a,b,c,d]) (.int .i64 0)).run Tryz.prog w = .ok a w:=qnh _ 0 a (by decide) rfl w
@[go_sem] theorem idx1 (a b c d : Value) (w : World) : (Instr.index 101 (.agg #[a,b,c,d]) (.int .i64 1)).run Tryz.prog w = .ok b w:=qnh _ 1 b (by decide) rfl w
@[go_sem] theorem idx2 (a b c d : Value) (w : World) : (Instr.index 101 (.agg #[a,b,c,d]) (.int .i64 2)).run Tryz.prog w = .ok c w:=qnh _ 2 c (by decide) rfl w
@[go_sem] theorem idx3 (a b c d : Value) (w : World) : (Instr.index 101 (.agg #[a,b,c,d]) (.int .i64 3)).run Tryz.prog w = .ok d w:=qnh _ 3 d (by decide) rfl w
theorem add_lit (a b c d p : UInt64) (w : World) :
  Calls Tryz.prog 88 #[el a b c d,.agg #[.int .u64 (n64 p),.int .u64 0,.int .u64 0,.int .u64 0]] w fun e w'=>∃ s0 s1 s2 s3,e = .returned (el s0 s1 s2 s3) ∧
   Eqp (val4 s0 s1 s2 s3) (val4 a b c d + val4 p 0 0 0)∧Ext w w':=qr0 a b c d p 0 0 0 w
theorem qhn (x : UInt64) (w : World) :
  Calls Tryz.prog 47 #[.int .u64 (n64 x),.int .u64 38] w fun e w'=>e = .returned (.tuple #[.int .u64 (n64 (mulH x 38)),.int .u64 (n64 (x * 38))])∧w' = w:=qe1 x 38 w

theorem mul_fun (x y : Nat→UInt64) (w : World) :
  Calls Tryz.prog 85 #[el (x 0) (x 1) (x 2) (x 3),el (y 0) (y 1) (y 2) (y 3)] w fun e w'=>∃ s0 s1 s2 s3,e = .returned (el s0 s1 s2 s3) ∧
   Eqp (val4 s0 s1 s2 s3) (lvf x 4 * lvf y 4)∧Ext w w':=by
 go_enter Tryz.func85,Tryz.ntmps85
 go_wp2
 go_loopw [21] (fun i wr=>∃ (k : Nat) (ws : Nat→UInt64),k ≤ 4∧i = .int .i64 k∧wr = (((w.alloc (.cells #[uw (x 0),uw (x 1),uw (x 2),uw (x 3)] 101)).alloc (.cells #[uw (y 0),uw (y 1),uw (y 2),uw (y 3)] 101)).alloc (.cells #[uw 0,uw 0,uw 0,uw 0] 101)).alloc (.cells #[uw (ws 0),uw (ws 1),uw (ws 2),uw (ws 3),uw (ws 4),uw (ws 5),uw (ws 6),uw (ws 7)] 95)∧lvf ws 8 = lvf x k * lvf y 4∧∀ j,k + 4 ≤ j→j < 8→ws j = 0) (fun i _=>4 - (intOf i).toNat)
 case atStart=>exact ⟨0,fun _=>0,by omega,rfl,rfl,by rw [qna (x:=fun _=>0) (fun _=>rfl),show lvf x 0 = 0 from rfl,Nat.zero_mul],fun _ _ _=>rfl⟩
 case round =>
  obtain ⟨k,ws,hk,rfl,rfl,hv,hz⟩:=hrel
  have HM : Hid (qaz x y ws 0 k 0):=Lib.hid (qaz.start hv hz)
  have HV:=Lib.hid hv
  clear hv hz
  rcases (by omega : k = 0 ∨ k = 1 ∨ k = 2 ∨ k = 3 ∨ k = 4) with rfl | rfl | rfl | rfl | rfl
  ·go_wp2
   clear HV
   go_loopw [8,26] (fun c kk wr=>∃ (k : Nat) (cr : UInt64) (ws : Nat→UInt64),k ≤ 4∧kk = .int .i64 k∧c = uw cr∧wr = (((w.alloc (.cells #[uw (x 0),uw (x 1),uw (x 2),uw (x 3)] 101)).alloc (.cells #[uw (y 0),uw (y 1),uw (y 2),uw (y 3)] 101)).alloc (.cells #[uw 0,uw 0,uw 0,uw 0] 101)).alloc (.cells #[uw (ws 0),uw (ws 1),uw (ws 2),uw (ws 3),uw (ws 4),uw (ws 5),uw (ws 6),uw (ws 7)] 95)∧qaz x y ws cr 0 k) (fun _ kk _=>4 - (intOf kk).toNat)
   case atStart=>exact ⟨0,0,ws,by omega,rfl,rfl,rfl,HM.out⟩
   case round =>
    clear HM
    clear ws
    obtain ⟨k,cr,ws,hk,rfl,rfl,rfl,hm⟩:=hrel
    have HM:=Lib.hid hm
    clear hm
    rcases (by omega : k = 0 ∨ k = 1 ∨ k = 2 ∨ k = 3 ∨ k = 4) with rfl | rfl | rfl | rfl | rfl
    ·go_wp2_with (first | simp only [qbb] | (go_at_call 47;with_reducible refine (qe1 _ _ _).mono ?_;rintro e w' ⟨rfl,rfl⟩))
     refine ⟨?_,by simp [intOf]⟩
     iterate 44 (apply Exists.intro)
     refine ⟨?_,rfl⟩
     exact ⟨1,msHi (x 0) (y 0) (ws (0+0)) cr,upd ws (0+0) (msLo (x 0) (y 0) (ws (0+0)) cr),by omega,rfl,rfl,rfl,qaz.step (by decide) (by decide) HM.out⟩
    ·go_wp2_with (first | simp only [qbb] | (go_at_call 47;with_reducible refine (qe1 _ _ _).mono ?_;rintro e w' ⟨rfl,rfl⟩))
     refine ⟨?_,by simp [intOf]⟩
     iterate 44 (apply Exists.intro)
     refine ⟨?_,rfl⟩
     exact ⟨2,msHi (x 0) (y 1) (ws (0+1)) cr,upd ws (0+1) (msLo (x 0) (y 1) (ws (0+1)) cr),by omega,rfl,rfl,rfl,qaz.step (by decide) (by decide) HM.out⟩
    ·go_wp2_with (first | simp only [qbb] | (go_at_call 47;with_reducible refine (qe1 _ _ _).mono ?_;rintro e w' ⟨rfl,rfl⟩))
     refine ⟨?_,by simp [intOf]⟩
     iterate 44 (apply Exists.intro)
     refine ⟨?_,rfl⟩
     exact ⟨3,msHi (x 0) (y 2) (ws (0+2)) cr,upd ws (0+2) (msLo (x 0) (y 2) (ws (0+2)) cr),by omega,rfl,rfl,rfl,qaz.step (by decide) (by decide) HM.out⟩
    ·go_wp2_with (first | simp only [qbb] | (go_at_call 47;with_reducible refine (qe1 _ _ _).mono ?_;rintro e w' ⟨rfl,rfl⟩))
     refine ⟨?_,by simp [intOf]⟩
     iterate 44 (apply Exists.intro)
     refine ⟨?_,rfl⟩
     exact ⟨4,msHi (x 0) (y 3) (ws (0+3)) cr,upd ws (0+3) (msLo (x 0) (y 3) (ws (0+3)) cr),by omega,rfl,rfl,rfl,qaz.step (by decide) (by decide) HM.out⟩
    ·go_wp2
     have hr:=qaz.row (by decide) HM.out
     refine ⟨?_,by simp [intOf]⟩
     exact ⟨1,upd ws (0 + 4) cr,by omega,rfl,rfl,hr.1,hr.2⟩
  ·go_wp2
   clear HV
   go_loopw [8,26] (fun c kk wr=>∃ (k : Nat) (cr : UInt64) (ws : Nat→UInt64),k ≤ 4∧kk = .int .i64 k∧c = uw cr∧wr = (((w.alloc (.cells #[uw (x 0),uw (x 1),uw (x 2),uw (x 3)] 101)).alloc (.cells #[uw (y 0),uw (y 1),uw (y 2),uw (y 3)] 101)).alloc (.cells #[uw 0,uw 0,uw 0,uw 0] 101)).alloc (.cells #[uw (ws 0),uw (ws 1),uw (ws 2),uw (ws 3),uw (ws 4),uw (ws 5),uw (ws 6),uw (ws 7)] 95)∧qaz x y ws cr 1 k) (fun _ kk _=>4 - (intOf kk).toNat)
   case atStart=>exact ⟨0,0,ws,by omega,rfl,rfl,rfl,HM.out⟩
   case round =>
    clear HM
    clear ws
    obtain ⟨k,cr,ws,hk,rfl,rfl,rfl,hm⟩:=hrel
    have HM:=Lib.hid hm
    clear hm
    rcases (by omega : k = 0 ∨ k = 1 ∨ k = 2 ∨ k = 3 ∨ k = 4) with rfl | rfl | rfl | rfl | rfl
    ·go_wp2_with (first | simp only [qbb] | (go_at_call 47;with_reducible refine (qe1 _ _ _).mono ?_;rintro e w' ⟨rfl,rfl⟩))
     refine ⟨?_,by simp [intOf]⟩
     iterate 44 (apply Exists.intro)
     refine ⟨?_,rfl⟩
     exact ⟨1,msHi (x 1) (y 0) (ws (1+0)) cr,upd ws (1+0) (msLo (x 1) (y 0) (ws (1+0)) cr),by omega,rfl,rfl,rfl,qaz.step (by decide) (by decide) HM.out⟩
    ·go_wp2_with (first | simp only [qbb] | (go_at_call 47;with_reducible refine (qe1 _ _ _).mono ?_;rintro e w' ⟨rfl,rfl⟩))
     refine ⟨?_,by simp [intOf]⟩
     iterate 44 (apply Exists.intro)
     refine ⟨?_,rfl⟩
     exact ⟨2,msHi (x 1) (y 1) (ws (1+1)) cr,upd ws (1+1) (msLo (x 1) (y 1) (ws (1+1)) cr),by omega,rfl,rfl,rfl,qaz.step (by decide) (by decide) HM.out⟩
    ·go_wp2_with (first | simp only [qbb] | (go_at_call 47;with_reducible refine (qe1 _ _ _).mono ?_;rintro e w' ⟨rfl,rfl⟩))
     refine ⟨?_,by simp [intOf]⟩
     iterate 44 (apply Exists.intro)
     refine ⟨?_,rfl⟩
     exact ⟨3,msHi (x 1) (y 2) (ws (1+2)) cr,upd ws (1+2) (msLo (x 1) (y 2) (ws (1+2)) cr),by omega,rfl,rfl,rfl,qaz.step (by decide) (by decide) HM.out⟩
    ·go_wp2_with (first | simp only [qbb] | (go_at_call 47;with_reducible refine (qe1 _ _ _).mono ?_;rintro e w' ⟨rfl,rfl⟩))
     refine ⟨?_,by simp [intOf]⟩
     iterate 44 (apply Exists.intro)
     refine ⟨?_,rfl⟩
     exact ⟨4,msHi (x 1) (y 3) (ws (1+3)) cr,upd ws (1+3) (msLo (x 1) (y 3) (ws (1+3)) cr),by omega,rfl,rfl,rfl,qaz.step (by decide) (by decide) HM.out⟩
    ·go_wp2
     have hr:=qaz.row (by decide) HM.out
     refine ⟨?_,by simp [intOf]⟩
     exact ⟨2,upd ws (1 + 4) cr,by omega,rfl,rfl,hr.1,hr.2⟩
  ·go_wp2
   clear HV
   go_loopw [8,26] (fun c kk wr=>∃ (k : Nat) (cr : UInt64) (ws : Nat→UInt64),k ≤ 4∧kk = .int .i64 k∧c = uw cr∧wr = (((w.alloc (.cells #[uw (x 0),uw (x 1),uw (x 2),uw (x 3)] 101)).alloc (.cells #[uw (y 0),uw (y 1),uw (y 2),uw (y 3)] 101)).alloc (.cells #[uw 0,uw 0,uw 0,uw 0] 101)).alloc (.cells #[uw (ws 0),uw (ws 1),uw (ws 2),uw (ws 3),uw (ws 4),uw (ws 5),uw (ws 6),uw (ws 7)] 95)∧qaz x y ws cr 2 k) (fun _ kk _=>4 - (intOf kk).toNat)
   case atStart=>exact ⟨0,0,ws,by omega,rfl,rfl,rfl,HM.out⟩
   case round =>
    clear HM
    clear ws
    obtain ⟨k,cr,ws,hk,rfl,rfl,rfl,hm⟩:=hrel
    have HM:=Lib.hid hm
    clear hm
    rcases (by omega : k = 0 ∨ k = 1 ∨ k = 2 ∨ k = 3 ∨ k = 4) with rfl | rfl | rfl | rfl | rfl
    ·go_wp2_with (first | simp only [qbb] | (go_at_call 47;with_reducible refine (qe1 _ _ _).mono ?_;rintro e w' ⟨rfl,rfl⟩))
     refine ⟨?_,by simp [intOf]⟩
     iterate 44 (apply Exists.intro)
     refine ⟨?_,rfl⟩
     exact ⟨1,msHi (x 2) (y 0) (ws (2+0)) cr,upd ws (2+0) (msLo (x 2) (y 0) (ws (2+0)) cr),by omega,rfl,rfl,rfl,qaz.step (by decide) (by decide) HM.out⟩
    ·go_wp2_with (first | simp only [qbb] | (go_at_call 47;with_reducible refine (qe1 _ _ _).mono ?_;rintro e w' ⟨rfl,rfl⟩))
     refine ⟨?_,by simp [intOf]⟩
     iterate 44 (apply Exists.intro)
     refine ⟨?_,rfl⟩
     exact ⟨2,msHi (x 2) (y 1) (ws (2+1)) cr,upd ws (2+1) (msLo (x 2) (y 1) (ws (2+1)) cr),by omega,rfl,rfl,rfl,qaz.step (by decide) (by decide) HM.out⟩
    ·go_wp2_with (first | simp only [qbb] | (go_at_call 47;with_reducible refine (qe1 _ _ _).mono ?_;rintro e w' ⟨rfl,rfl⟩))
     refine ⟨?_,by simp [intOf]⟩
     iterate 44 (apply Exists.intro)
     refine ⟨?_,rfl⟩
     exact ⟨3,msHi (x 2) (y 2) (ws (2+2)) cr,upd ws (2+2) (msLo (x 2) (y 2) (ws (2+2)) cr),by omega,rfl,rfl,rfl,qaz.step (by decide) (by decide) HM.out⟩
    ·go_wp2_with (first | simp only [qbb] | (go_at_call 47;with_reducible refine (qe1 _ _ _).mono ?_;rintro e w' ⟨rfl,rfl⟩))
     refine ⟨?_,by simp [intOf]⟩
     iterate 44 (apply Exists.intro)
     refine ⟨?_,rfl⟩
     exact ⟨4,msHi (x 2) (y 3) (ws (2+3)) cr,upd ws (2+3) (msLo (x 2) (y 3) (ws (2+3)) cr),by omega,rfl,rfl,rfl,qaz.step (by decide) (by decide) HM.out⟩
    ·go_wp2
     have hr:=qaz.row (by decide) HM.out
     refine ⟨?_,by simp [intOf]⟩
     exact ⟨3,upd ws (2 + 4) cr,by omega,rfl,rfl,hr.1,hr.2⟩
  ·go_wp2
   clear HV
   go_loopw [8,26] (fun c kk wr=>∃ (k : Nat) (cr : UInt64) (ws : Nat→UInt64),k ≤ 4∧kk = .int .i64 k∧c = uw cr∧wr = (((w.alloc (.cells #[uw (x 0),uw (x 1),uw (x 2),uw (x 3)] 101)).alloc (.cells #[uw (y 0),uw (y 1),uw (y 2),uw (y 3)] 101)).alloc (.cells #[uw 0,uw 0,uw 0,uw 0] 101)).alloc (.cells #[uw (ws 0),uw (ws 1),uw (ws 2),uw (ws 3),uw (ws 4),uw (ws 5),uw (ws 6),uw (ws 7)] 95)∧qaz x y ws cr 3 k) (fun _ kk _=>4 - (intOf kk).toNat)
   case atStart=>exact ⟨0,0,ws,by omega,rfl,rfl,rfl,HM.out⟩
   case round =>
    clear HM
    clear ws
    obtain ⟨k,cr,ws,hk,rfl,rfl,rfl,hm⟩:=hrel
    have HM:=Lib.hid hm
    clear hm
    rcases (by omega : k = 0 ∨ k = 1 ∨ k = 2 ∨ k = 3 ∨ k = 4) with rfl | rfl | rfl | rfl | rfl
    ·go_wp2_with (first | simp only [qbb] | (go_at_call 47;with_reducible refine (qe1 _ _ _).mono ?_;rintro e w' ⟨rfl,rfl⟩))
     refine ⟨?_,by simp [intOf]⟩
     iterate 44 (apply Exists.intro)
     refine ⟨?_,rfl⟩
     exact ⟨1,msHi (x 3) (y 0) (ws (3+0)) cr,upd ws (3+0) (msLo (x 3) (y 0) (ws (3+0)) cr),by omega,rfl,rfl,rfl,qaz.step (by decide) (by decide) HM.out⟩
    ·go_wp2_with (first | simp only [qbb] | (go_at_call 47;with_reducible refine (qe1 _ _ _).mono ?_;rintro e w' ⟨rfl,rfl⟩))
     refine ⟨?_,by simp [intOf]⟩
     iterate 44 (apply Exists.intro)
     refine ⟨?_,rfl⟩
     exact ⟨2,msHi (x 3) (y 1) (ws (3+1)) cr,upd ws (3+1) (msLo (x 3) (y 1) (ws (3+1)) cr),by omega,rfl,rfl,rfl,qaz.step (by decide) (by decide) HM.out⟩
    ·go_wp2_with (first | simp only [qbb] | (go_at_call 47;with_reducible refine (qe1 _ _ _).mono ?_;rintro e w' ⟨rfl,rfl⟩))
     refine ⟨?_,by simp [intOf]⟩
     iterate 44 (apply Exists.intro)
     refine ⟨?_,rfl⟩
     exact ⟨3,msHi (x 3) (y 2) (ws (3+2)) cr,upd ws (3+2) (msLo (x 3) (y 2) (ws (3+2)) cr),by omega,rfl,rfl,rfl,qaz.step (by decide) (by decide) HM.out⟩
    ·go_wp2_with (first | simp only [qbb] | (go_at_call 47;with_reducible refine (qe1 _ _ _).mono ?_;rintro e w' ⟨rfl,rfl⟩))
     refine ⟨?_,by simp [intOf]⟩
     iterate 44 (apply Exists.intro)
     refine ⟨?_,rfl⟩
     exact ⟨4,msHi (x 3) (y 3) (ws (3+3)) cr,upd ws (3+3) (msLo (x 3) (y 3) (ws (3+3)) cr),by omega,rfl,rfl,rfl,qaz.step (by decide) (by decide) HM.out⟩
    ·go_wp2
     have hr:=qaz.row (by decide) HM.out
     refine ⟨?_,by simp [intOf]⟩
     exact ⟨4,upd ws (3 + 4) cr,by omega,rfl,rfl,hr.1,hr.2⟩
  ·clear HM
   go_wp2
   go_loopw [15,69] (fun c kk wr=>∃ (k : Nat) (cr : UInt64) (o : Nat→UInt64),k ≤ 4∧kk = .int .i64 k∧c = uw cr∧wr = ((((w.alloc (.cells #[uw (x 0),uw (x 1),uw (x 2),uw (x 3)] 101)).alloc (.cells #[uw (y 0),uw (y 1),uw (y 2),uw (y 3)] 101)).alloc (.cells #[uw 0,uw 0,uw 0,uw 0] 101)).alloc (.cells #[uw (ws 0),uw (ws 1),uw (ws 2),uw (ws 3),uw (ws 4),uw (ws 5),uw (ws 6),uw (ws 7)] 95)).alloc (.cells #[uw (o 0),uw (o 1),uw (o 2),uw (o 3)] 101)∧qbg ws o cr k) (fun _ kk _=>4 - (intOf kk).toNat)
   case atStart=>exact ⟨0,0,fun _=>0,by omega,rfl,rfl,rfl,by simp [qbg,lvf]⟩
   case round =>
    obtain ⟨k,cr,o,hk,rfl,rfl,rfl,hf⟩:=hrel
    have HF:=Lib.hid hf
    clear hf
    rcases (by omega : k = 0 ∨ k = 1 ∨ k = 2 ∨ k = 3 ∨ k = 4) with rfl | rfl | rfl | rfl | rfl
    ·go_wp2_with (first | simp only [qbb] | (go_at_call 47;with_reducible refine (qhn _ _).mono ?_;rintro e w' ⟨rfl,rfl⟩))
     refine ⟨?_,by simp [intOf]⟩
     iterate 40 (apply Exists.intro)
     refine ⟨?_,rfl⟩
     exact ⟨1,msHi (ws (0+4)) 38 (ws 0) cr,upd o 0 (msLo (ws (0+4)) 38 (ws 0) cr),by omega,rfl,rfl,rfl,qbg.step HF.out⟩
    ·go_wp2_with (first | simp only [qbb] | (go_at_call 47;with_reducible refine (qhn _ _).mono ?_;rintro e w' ⟨rfl,rfl⟩))
     refine ⟨?_,by simp [intOf]⟩
     iterate 40 (apply Exists.intro)
     refine ⟨?_,rfl⟩
     exact ⟨2,msHi (ws (1+4)) 38 (ws 1) cr,upd o 1 (msLo (ws (1+4)) 38 (ws 1) cr),by omega,rfl,rfl,rfl,qbg.step HF.out⟩
    ·go_wp2_with (first | simp only [qbb] | (go_at_call 47;with_reducible refine (qhn _ _).mono ?_;rintro e w' ⟨rfl,rfl⟩))
     refine ⟨?_,by simp [intOf]⟩
     iterate 40 (apply Exists.intro)
     refine ⟨?_,rfl⟩
     exact ⟨3,msHi (ws (2+4)) 38 (ws 2) cr,upd o 2 (msLo (ws (2+4)) 38 (ws 2) cr),by omega,rfl,rfl,rfl,qbg.step HF.out⟩
    ·go_wp2_with (first | simp only [qbb] | (go_at_call 47;with_reducible refine (qhn _ _).mono ?_;rintro e w' ⟨rfl,rfl⟩))
     refine ⟨?_,by simp [intOf]⟩
     iterate 40 (apply Exists.intro)
     refine ⟨?_,rfl⟩
     exact ⟨4,msHi (ws (3+4)) 38 (ws 3) cr,upd o 3 (msLo (ws (3+4)) 38 (ws 3) cr),by omega,rfl,rfl,rfl,qbg.step HF.out⟩
    ·have hd:=qbg.done HV.out HF.out
     have HD:=Lib.hid hd.2
     have HC:=Lib.hid hd.1
     clear hd HF HV
     go_wp2_with (go_at_call 88;with_reducible refine (add_lit _ _ _ _ _ _).mono ?_;rintro e w' ⟨s0,s1,s2,s3,rfl,hs,hx⟩;obtain ⟨l',rfl⟩:=qah hx;clear hx)
     refine bodyPost_ret_by (by simp [results,Tryz.results85,go_sem];rfl) rfl ?_
     refine ⟨s0,s1,s2,s3,rfl,?_,?_⟩
     ·refine hs.trans ?_
      have h1:=HD.out
      have h2:=HC.out
      have e : val4 (38 * cr) 0 0 0 = 38 * cr.toNat:=by
       unfold val4
       rw [UInt64.toNat_mul]
       rw [show (38 : UInt64).toNat = 38 from rfl,show (0 : UInt64).toNat = 0 from rfl]
       rw [Nat.mod_eq_of_lt (by omega)]
       omega
      rw [e]
      exact h1
     ·exact (((((qaa _ _).trans (qaa _ _)).trans (qaa _ _)).trans (qaa _ _)).trans (qaa _ _)).trans (qad _ _)
theorem qb1 (a b c d a' b' c' d' : UInt64) (w : World) :
  Calls Tryz.prog 85 #[el a b c d,el a' b' c' d'] w fun e w'=>∃ s0 s1 s2 s3,e = .returned (el s0 s1 s2 s3) ∧
   Eqp (val4 s0 s1 s2 s3) (val4 a b c d * val4 a' b' c' d')∧Ext w w':=by
 have h:=mul_fun (fun n=>if n = 0 then a else if n = 1 then b else if n = 2 then c else d) (fun n=>if n = 0 then a' else if n = 1 then b' else if n = 2 then c' else d') w
 rw [lvf4,lvf4] at h
 exact h
end Go.Proofs.YtgeihelkkhjjaaaGreatDoor
end
section
namespace Go.Cv
theorem Eqp.mul {a b c d : Nat} (h : Eqp a b) (k : Eqp c d) : Eqp (a * c) (b * d):=by
 unfold Eqp at *
 rw [Nat.mul_mod,h,k,← Nat.mul_mod]
theorem Eqp.add {a b c d : Nat} (h : Eqp a b) (k : Eqp c d) : Eqp (a + c) (b + d):=by
 unfold Eqp at *
 rw [Nat.add_mod,h,k,← Nat.add_mod]
theorem Eqp.refl (a : Nat) : Eqp a a:=rfl
theorem Eqp.tr {a b c : Nat} (h : Eqp a b) (k : Eqp b c) : Eqp a c:=Eq.trans h k
theorem Eqp.sy {a b : Nat} (h : Eqp a b) : Eqp b a:=Eq.symm h
theorem sq_step {s t a m : Nat} (h : Eqp s (a ^ 2 ^ m)) (k : Eqp t (s * s)) : Eqp t (a ^ 2 ^ (m + 1)):=by
 refine k.tr ((h.mul h).tr ?_)
 rw [← Nat.pow_add,← Nat.two_mul,Nat.pow_succ,Nat.mul_comm 2]
end Go.Cv
namespace Go.Proofs.YtgeihelkkhjjaaaGreatDoor
open Go.RowKit Go.Cv

theorem qc3 (a b c d : UInt64) (n : Nat) (hn : n < 1000000) (w : World) :
  Calls Tryz.prog 104 #[el a b c d,.int .i64 n] w fun e w'=>∃ s0 s1 s2 s3,e = .returned (el s0 s1 s2 s3) ∧
   Eqp (val4 s0 s1 s2 s3) (val4 a b c d ^ 2 ^ n)∧Ext w w':=by
 go_enter Tryz.func104,Tryz.ntmps104
 go_wp2
 go_loopw [6] (fun i wr=>∃ (k : Nat) (s0 s1 s2 s3 : UInt64) (l : Nat × Array Obj),k ≤ n∧i = .int .i64 k ∧
  wr = grw ((w.alloc (.cells (w4 s0 s1 s2 s3) 101)).alloc (.cells (w4 0 0 0 0) 101)) l ∧
  Eqp (val4 s0 s1 s2 s3) (val4 a b c d ^ 2 ^ k)) (fun i _=>n - (intOf i).toNat)
 case atStart=>exact ⟨0,a,b,c,d,_,Nat.zero_le _,rfl,qd1 _,by rw [Nat.pow_zero,Nat.pow_one]⟩
 case round =>
  obtain ⟨k,s0,s1,s2,s3,l,hk,rfl,rfl,hv⟩:=hrel
  have HV:=Lib.hid hv
  clear hv
  by_cases hlt : k < n
  ·go_wp2_with (go_at_call 85;with_reducible refine (qb1 _ _ _ _ _ _ _ _ _).mono ?_;rintro e w' ⟨t0,t1,t2,t3,rfl,ht,hx⟩;obtain ⟨l',rfl⟩:=qah hx;clear hx)
   go_roundw
   case rel=>exact ⟨k + 1,t0,t1,t2,t3,_,by omega,by go_num,rfl,sq_step HV.out ht⟩
   case measure=>simp [intOf];omega
  ·go_wp2
   refine bodyPost_ret_by (by simp [results,Tryz.results104,go_sem];rfl) rfl ?_
   have hkn : k = n:=by omega
   subst hkn
   exact ⟨_,_,_,_,rfl,HV.out,((qaa _ _).trans (qaa _ _)).trans (qad _ _)⟩
theorem qkc (a b c d : UInt64) (w : World) :
  Calls Tryz.prog 104 #[el a b c d,.int .i64 2] w fun e w'=>∃ s0 s1 s2 s3,e = .returned (el s0 s1 s2 s3) ∧
   Eqp (val4 s0 s1 s2 s3) (val4 a b c d ^ 2 ^ 2)∧Ext w w':=qc3 a b c d 2 (by decide) w
theorem qkb (a b c d : UInt64) (w : World) :
  Calls Tryz.prog 104 #[el a b c d,.int .i64 5] w fun e w'=>∃ s0 s1 s2 s3,e = .returned (el s0 s1 s2 s3) ∧
   Eqp (val4 s0 s1 s2 s3) (val4 a b c d ^ 2 ^ 5)∧Ext w w':=qc3 a b c d 5 (by decide) w
theorem qiv (a b c d : UInt64) (w : World) :
  Calls Tryz.prog 104 #[el a b c d,.int .i64 10] w fun e w'=>∃ s0 s1 s2 s3,e = .returned (el s0 s1 s2 s3) ∧
   Eqp (val4 s0 s1 s2 s3) (val4 a b c d ^ 2 ^ 10)∧Ext w w':=qc3 a b c d 10 (by decide) w
theorem qn1 (a b c d : UInt64) (w : World) :
  Calls Tryz.prog 104 #[el a b c d,.int .i64 20] w fun e w'=>∃ s0 s1 s2 s3,e = .returned (el s0 s1 s2 s3) ∧
   Eqp (val4 s0 s1 s2 s3) (val4 a b c d ^ 2 ^ 20)∧Ext w w':=qc3 a b c d 20 (by decide) w
theorem qiu (a b c d : UInt64) (w : World) :
  Calls Tryz.prog 104 #[el a b c d,.int .i64 50] w fun e w'=>∃ s0 s1 s2 s3,e = .returned (el s0 s1 s2 s3) ∧
   Eqp (val4 s0 s1 s2 s3) (val4 a b c d ^ 2 ^ 50)∧Ext w w':=qc3 a b c d 50 (by decide) w
theorem qlq (a b c d : UInt64) (w : World) :
  Calls Tryz.prog 104 #[el a b c d,.int .i64 100] w fun e w'=>∃ s0 s1 s2 s3,e = .returned (el s0 s1 s2 s3) ∧
   Eqp (val4 s0 s1 s2 s3) (val4 a b c d ^ 2 ^ 100)∧Ext w w':=qc3 a b c d 100 (by decide) w
end Go.Proofs.YtgeihelkkhjjaaaGreatDoor
end
