/-
  Texts of the lemmas below the claim, put together: HashB HashD HashF HashM HashN.
-/
import Derived.Test.YtgeihelkkhjjaaaGreatDoorKHashA
import Derived.Deep.CutRange
import Derived.OwnWalk
import Derived.Laws.Tables
import Derived.Laws.CopyOwn
set_option linter.unusedSimpArgs false
set_option linter.unusedVariables false
set_option maxRecDepth 20000
set_option maxHeartbeats 32000000
section
namespace Go.Proofs.YtgeihelkkhjjaaaGreatDoor
open Go.RowKit Go.Cv Go.Cv.Hash Go.Cv.Dig
end Go.Proofs.YtgeihelkkhjjaaaGreatDoor
end
section
namespace Go.Cv.Hash
open Go.RowKit
end Go.Cv.Hash
namespace Go.Proofs.YtgeihelkkhjjaaaGreatDoor
open Go.RowKit Go.Cv Go.Cv.Hash Go.Cv.Dig
theorem Rd.ofRow32 {w : World} {b : Nat} {T : TypeId} {cs : List Value} (h : Row w b T cs) (k : Nat) : Rd w (some ⟨b,k,none⟩) (cs.drop k):=Rd.of_cells fun j u hu=>by
 rw [show (Addr.add ⟨b,k,none⟩ j) = ⟨b,k + j,none⟩ from by unfold Addr.add;split <;> simp_all]
 rw [List.getElem?_drop] at hu
 obtain ⟨hlt,e⟩:=List.getElem?_eq_some_iff.1 hu
 rw [h.cell hlt,e]
end Go.Proofs.YtgeihelkkhjjaaaGreatDoor
end
section
namespace Go.Cv.Hash
open Go.RowKit
def K32 : List UInt32:=[1116352408,1899447441,3049323471,3921009573,961987163,1508970993,2453635748,2870763221,3624381080,310598401,607225278,1426881987,1925078388,2162078206,2614888103,3248222580,3835390401,4022224774,264347078,604807628,770255983,1249150122,1555081692,1996064986,2554220882,2821834349,2952996808,3210313671,3336571891,3584528711,113926993,338241895,666307205,773529912,1294757372,1396182291,1695183700,1986661051,2177026350,2456956037,2730485921,2820302411,3259730800,3345764771,3516065817,3600352804,4094571909,275423344,430227734,506948616,659060556,883997877,958139571,1322822218,1537002063,1747873779,1955562222,2024104815,2227730452,2361852424,2428436474,2756734187,3204031479,3329325298]
def B32 : St32:=⟨1779033703,3144134277,1013904242,2773480762,1359893119,2600822924,528734635,1541459225⟩
def Tab32 (w : World) : Prop:=Rd w (some ⟨1,0,none⟩) (K32.map wv32)∧Rd w (some ⟨0,0,none⟩) (B32.l.map wv32)
theorem Tab32.ext {w w' : World} (h : Tab32 w) (hx : Ext w w') : Tab32 w':=⟨h.1.ext hx,h.2.ext hx⟩
end Go.Cv.Hash
namespace Go.Proofs.YtgeihelkkhjjaaaGreatDoor
open Go.RowKit Go.Cv Go.Cv.Hash Go.Cv.Dig

end Go.Proofs.YtgeihelkkhjjaaaGreatDoor
end
section
namespace Go.Cv.Hash
open Go.RowKit
def rotG (b : Nat) (M x : UInt64) (n : Nat) : UInt64:=(x >>> UInt64.ofNat n ||| x <<< UInt64.ofNat (b - n)) &&& M
def qew (b : Nat) (M x : UInt64) (i j k : Nat) : UInt64:=rotG b M x i ^^^ rotG b M x j ^^^ x >>> UInt64.ofNat k
def qfx (b : Nat) (M x : UInt64) (i j k : Nat) : UInt64:=rotG b M x i ^^^ rotG b M x j ^^^ rotG b M x k
theorem qqh (x : UInt64) (s : Nat) (h : s < 64) : x * u64 ((2 : Int) ^ s) = x <<< UInt64.ofNat s:=by
 apply UInt64.toNat_inj.1
 rw [UInt64.toNat_shiftLeft,qcx s h,Nat.mod_eq_of_lt h,Nat.shiftLeft_eq,UInt64.toNat_mul]
 have h2 : ((u64 ((2 : Int) ^ s)).toNat : Int) = (2 : Int) ^ s % 18446744073709551616:=qe5 _
 have h3 : (2 : Int) ^ s < 18446744073709551616:=by
  have:=Nat.pow_lt_pow_right (a:=2) (by decide) h
  have e : ((2 ^ s : Nat) : Int) = (2 : Int) ^ s:=by simp
  omega
 have h4 : (u64 ((2 : Int) ^ s)).toNat = 2 ^ s:=by
  have h5 : (0 : Int) ≤ (2 : Int) ^ s:=Int.pow_nonneg (by decide)
  rw [Int.emod_eq_of_lt h5 h3] at h2
  have e : ((2 ^ s : Nat) : Int) = (2 : Int) ^ s:=by simp
  omega
 rw [h4]
end Go.Cv.Hash
namespace Go.Proofs.YtgeihelkkhjjaaaGreatDoor
open Go.RowKit Go.Cv Go.Cv.Hash Go.Cv.Dig
theorem qpt (b k s0 s1 s2 s3 s4 s5 K : Nat) (M x : UInt64) (w : World) (hb : b ≤ 64) (h0 : 0 < k) (h1 : k < b) :
  Calls Tryz.prog 109 #[.agg #[.int .i64 (b : Int),.slice (some ⟨s0,0,none⟩) 3 3,.slice (some ⟨s1,0,none⟩) 3 3,.slice (some ⟨s2,0,none⟩) 3 3,.slice (some ⟨s3,0,none⟩) 3 3,.int .u64 (n64 M),.slice (some ⟨s4,0,none⟩) K K,.slice (some ⟨s5,0,none⟩) 8 8],.int .u64 (n64 x),.int .i64 (k : Int)] w fun e w'=>e = .returned (.int .u64 (n64 (rotG b M x k)))∧Ext w w':=by
 have hl:=qqh x (b - k) (by omega)
 have hr:=qdx x k (by omega)
 have hk0 : 0 ≤ (k : Int):=by omega
 have hk1 : (k : Int) ≤ 64:=by omega
 have hsub : IntKind.i64.wrap ((b : Int) - (k : Int)) = ((b - k : Nat) : Int):=by rw [IntWalk.i64_in _ (by omega)];omega
 have hsub' : (b : Int) - (k : Int) = ((b - k : Nat) : Int):=by omega
 have e : rotG b M x k = (x >>> UInt64.ofNat k ||| x <<< UInt64.ofNat (b - k)) &&& M:=rfl
 rw [e]
 clear e
 generalize x >>> UInt64.ofNat k = z at *
 go_enter Tryz.func109,Tryz.ntmps109
 go_wp2
 go_region
 go_wp2
 go_ret
 exact ⟨rfl,Ext.drewN (qaa _ _) _⟩
theorem qpg (b i j k s0 s1 s2 s3 s4 s5 K t : Nat) (M x : UInt64) (w : World) (hb : b ≤ 64) (hi : 0 < i) (hi1 : i < b) (hj : 0 < j) (hj1 : j < b) (hk1 : k < 64) (hT : Row w t 3 [.int .i64 (i : Int),.int .i64 (j : Int),.int .i64 (k : Int)]) :
  Calls Tryz.prog 100 #[.agg #[.int .i64 (b : Int),.slice (some ⟨s0,0,none⟩) 3 3,.slice (some ⟨s1,0,none⟩) 3 3,.slice (some ⟨s2,0,none⟩) 3 3,.slice (some ⟨s3,0,none⟩) 3 3,.int .u64 (n64 M),.slice (some ⟨s4,0,none⟩) K K,.slice (some ⟨s5,0,none⟩) 8 8],.int .u64 (n64 x),.slice (some ⟨t,0,none⟩) 3 3] w fun e w'=>e = .returned (.int .u64 (n64 (qew b M x i j k)))∧Ext w w':=by
 have q1:=fun w=>qpt b i s0 s1 s2 s3 s4 s5 K M x w hb hi hi1
 have q2:=fun w=>qpt b j s0 s1 s2 s3 s4 s5 K M x w hb hj hj1
 have hr:=qdx x k hk1
 have hk0 : 0 ≤ (k : Int):=by omega
 have hk2 : (k : Int) ≤ 64:=by omega
 have e : qew b M x i j k = rotG b M x i ^^^ rotG b M x j ^^^ x >>> UInt64.ofNat k:=rfl
 rw [e]
 clear e
 generalize x >>> UInt64.ofNat k = y3 at *
 generalize rotG b M x i = y1 at *
 generalize rotG b M x j = y2 at *
 go_enter Tryz.func100,Tryz.ntmps100
 go_wp2
 obtain ⟨w1,hw1⟩ : ∃ w1,w1 = w.alloc (.cells #[.int .i64 (b : Int),.slice (some ⟨s0,0,none⟩) 3 3,.slice (some ⟨s1,0,none⟩) 3 3,.slice (some ⟨s2,0,none⟩) 3 3,.slice (some ⟨s3,0,none⟩) 3 3,.int .u64 (n64 M),.slice (some ⟨s4,0,none⟩) K K,.slice (some ⟨s5,0,none⟩) 8 8] 81):=⟨_,rfl⟩
 obtain ⟨B,hB⟩ : ∃ B,B = w.heap.size:=⟨_,rfl⟩
 rw [← hw1,← hB]
 have hx1 : Ext w w1:=by rw [hw1];exact qaa _ _
 have hR : Row w1 B 81 [.int .i64 (b : Int),.slice (some ⟨s0,0,none⟩) 3 3,.slice (some ⟨s1,0,none⟩) 3 3,.slice (some ⟨s2,0,none⟩) 3 3,.slice (some ⟨s3,0,none⟩) 3 3,.int .u64 (n64 M),.slice (some ⟨s4,0,none⟩) K K,.slice (some ⟨s5,0,none⟩) 8 8]:=by rw [hw1,hB];exact Row.alloc w [.int .i64 (b : Int),.slice (some ⟨s0,0,none⟩) 3 3,.slice (some ⟨s1,0,none⟩) 3 3,.slice (some ⟨s2,0,none⟩) 3 3,.slice (some ⟨s3,0,none⟩) 3 3,.int .u64 (n64 M),.slice (some ⟨s4,0,none⟩) K K,.slice (some ⟨s5,0,none⟩) 8 8] _
 have hT1:=hT.ext hx1
 clear hw1 hB hT
 have c0 : w1.cell? ⟨B,0,none⟩ = some (.int .i64 (b : Int)):=(hR.cell (i:=0) (by simp)).trans rfl
 have c1 : w1.cell? ⟨B,1,none⟩ = some (.slice (some ⟨s0,0,none⟩) 3 3):=(hR.cell (i:=1) (by simp)).trans rfl
 have c2 : w1.cell? ⟨B,2,none⟩ = some (.slice (some ⟨s1,0,none⟩) 3 3):=(hR.cell (i:=2) (by simp)).trans rfl
 have c3 : w1.cell? ⟨B,3,none⟩ = some (.slice (some ⟨s2,0,none⟩) 3 3):=(hR.cell (i:=3) (by simp)).trans rfl
 have c4 : w1.cell? ⟨B,4,none⟩ = some (.slice (some ⟨s3,0,none⟩) 3 3):=(hR.cell (i:=4) (by simp)).trans rfl
 have c5 : w1.cell? ⟨B,5,none⟩ = some (.int .u64 (n64 M)):=(hR.cell (i:=5) (by simp)).trans rfl
 have c6 : w1.cell? ⟨B,6,none⟩ = some (.slice (some ⟨s4,0,none⟩) K K):=(hR.cell (i:=6) (by simp)).trans rfl
 have c7 : w1.cell? ⟨B,7,none⟩ = some (.slice (some ⟨s5,0,none⟩) 8 8):=(hR.cell (i:=7) (by simp)).trans rfl
 have d0 : w1.cell? ⟨t,0,none⟩ = some (.int .i64 (i : Int)):=(hT1.cell (i:=0) (by simp)).trans rfl
 have d1 : w1.cell? ⟨t,1,none⟩ = some (.int .i64 (j : Int)):=(hT1.cell (i:=1) (by simp)).trans rfl
 have d2 : w1.cell? ⟨t,2,none⟩ = some (.int .i64 (k : Int)):=(hT1.cell (i:=2) (by simp)).trans rfl
 refine qbd (fun w'=>Ext w1 w') (by kernel_rfl) (qae _) ?_
 refine gS (i:=0) (some 7) (v:=?_) rfl rfl (by kernel_rfl) (fun _ _ _ h=>h) (by rfl) (fun w hS=>?_) ?_
 rotate_left
 ·have e1:=Ext.cell hS c0;have e2:=Ext.cell hS c1;have e3:=Ext.cell hS c2;have e4:=Ext.cell hS c3;have e5:=Ext.cell hS c4;have e6:=Ext.cell hS c5;have e7:=Ext.cell hS c6;have e8:=Ext.cell hS c7
  go_simp
  refine ⟨?_,hS⟩
  with_reducible rfl
 simp only [Act.put,zA,zB,zC]
 refine gS (i:=1) (some 8) (v:=?_) rfl rfl (by kernel_rfl) (fun _ _ _ h=>h) (by rfl) (fun w hS=>?_) ?_
 rotate_left
 ·(try go_simp)
  refine ⟨?_,hS⟩
  with_reducible rfl
 simp only [Act.put,zA,zB,zC]
 refine gS (i:=2) (some 9) (v:=?_) rfl rfl (by kernel_rfl) (fun _ _ _ h=>h) (by rfl) (fun w hS=>?_) ?_
 rotate_left
 ·(try go_simp)
  refine ⟨?_,hS⟩
  with_reducible rfl
 simp only [Act.put,zA,zB,zC]
 refine gS (i:=3) (some 10) (v:=?_) rfl rfl (by kernel_rfl) (fun _ _ _ h=>h) (by rfl) (fun w hS=>?_) ?_
 rotate_left
 ·(try go_simp)
  refine ⟨?_,hS⟩
  with_reducible rfl
 simp only [Act.put,zA,zB,zC]
 refine gS (i:=4) (some 11) (v:=?_) rfl rfl (by kernel_rfl) (fun _ _ _ h=>h) (by rfl) (fun w hS=>?_) ?_
 rotate_left
 ·have e1:=Ext.cell hS d0
  go_simp
  refine ⟨?_,hS⟩
  with_reducible rfl
 simp only [Act.put,zA,zB,zC]
 refine gS (i:=5) (some 12) (v:=?_) rfl rfl (by kernel_rfl) (fun _ _ _ h=>h) (by rfl) (fun w hS=>?_) ?_
 rotate_left
 ·go_simp
  change Calls _ _ _ _ _
  refine Calls.mono (q1 _) ?_
  rintro e w' ⟨rfl,hx⟩
  refine ⟨?_,hS.trans hx⟩
  with_reducible rfl
 simp only [Act.put,zA,zB,zC]
 refine gS (i:=6) (some 13) (v:=?_) rfl rfl (by kernel_rfl) (fun _ _ _ h=>h) (by rfl) (fun w hS=>?_) ?_
 rotate_left
 ·have e1:=Ext.cell hS c0;have e2:=Ext.cell hS c1;have e3:=Ext.cell hS c2;have e4:=Ext.cell hS c3;have e5:=Ext.cell hS c4;have e6:=Ext.cell hS c5;have e7:=Ext.cell hS c6;have e8:=Ext.cell hS c7
  go_simp
  refine ⟨?_,hS⟩
  with_reducible rfl
 simp only [Act.put,zA,zB,zC]
 refine gS (i:=7) (some 14) (v:=?_) rfl rfl (by kernel_rfl) (fun _ _ _ h=>h) (by rfl) (fun w hS=>?_) ?_
 rotate_left
 ·(try go_simp)
  refine ⟨?_,hS⟩
  with_reducible rfl
 simp only [Act.put,zA,zB,zC]
 refine gS (i:=8) (some 15) (v:=?_) rfl rfl (by kernel_rfl) (fun _ _ _ h=>h) (by rfl) (fun w hS=>?_) ?_
 rotate_left
 ·(try go_simp)
  refine ⟨?_,hS⟩
  with_reducible rfl
 simp only [Act.put,zA,zB,zC]
 refine gS (i:=9) (some 16) (v:=?_) rfl rfl (by kernel_rfl) (fun _ _ _ h=>h) (by rfl) (fun w hS=>?_) ?_
 rotate_left
 ·(try go_simp)
  refine ⟨?_,hS⟩
  with_reducible rfl
 simp only [Act.put,zA,zB,zC]
 refine gS (i:=10) (some 17) (v:=?_) rfl rfl (by kernel_rfl) (fun _ _ _ h=>h) (by rfl) (fun w hS=>?_) ?_
 rotate_left
 ·have e1:=Ext.cell hS d1
  go_simp
  refine ⟨?_,hS⟩
  with_reducible rfl
 simp only [Act.put,zA,zB,zC]
 refine gS (i:=11) (some 18) (v:=?_) rfl rfl (by kernel_rfl) (fun _ _ _ h=>h) (by rfl) (fun w hS=>?_) ?_
 rotate_left
 ·go_simp
  change Calls _ _ _ _ _
  refine Calls.mono (q2 _) ?_
  rintro e w' ⟨rfl,hx⟩
  refine ⟨?_,hS.trans hx⟩
  with_reducible rfl
 simp only [Act.put,zA,zB,zC]
 refine gS (i:=12) (some 19) (v:=?_) rfl rfl (by kernel_rfl) (fun _ _ _ h=>h) (by rfl) (fun w hS=>?_) ?_
 rotate_left
 ·(try go_simp)
  refine ⟨?_,hS⟩
  with_reducible rfl
 simp only [Act.put,zA,zB,zC]
 refine gS (i:=13) (some 20) (v:=?_) rfl rfl (by kernel_rfl) (fun _ _ _ h=>h) (by rfl) (fun w hS=>?_) ?_
 rotate_left
 ·(try go_simp)
  refine ⟨?_,hS⟩
  with_reducible rfl
 simp only [Act.put,zA,zB,zC]
 refine gS (i:=14) (some 21) (v:=?_) rfl rfl (by kernel_rfl) (fun _ _ _ h=>h) (by rfl) (fun w hS=>?_) ?_
 rotate_left
 ·(try go_simp)
  refine ⟨?_,hS⟩
  with_reducible rfl
 simp only [Act.put,zA,zB,zC]
 refine gS (i:=15) (some 22) (v:=?_) rfl rfl (by kernel_rfl) (fun _ _ _ h=>h) (by rfl) (fun w hS=>?_) ?_
 rotate_left
 ·(try go_simp)
  refine ⟨?_,hS⟩
  with_reducible rfl
 simp only [Act.put,zA,zB,zC]
 refine gS (i:=16) (some 23) (v:=?_) rfl rfl (by kernel_rfl) (fun _ _ _ h=>h) (by rfl) (fun w hS=>?_) ?_
 rotate_left
 ·have e1:=Ext.cell hS d2
  go_simp
  refine ⟨?_,hS⟩
  with_reducible rfl
 simp only [Act.put,zA,zB,zC]
 refine gS (i:=17) (some 24) (v:=?_) rfl rfl (by kernel_rfl) (fun _ _ _ h=>h) (by rfl) (fun w hS=>?_) ?_
 rotate_left
 ·(try go_simp)
  refine ⟨?_,hS⟩
  with_reducible rfl
 simp only [Act.put,zA,zB,zC]
 refine gS (i:=18) (some 25) (v:=?_) rfl rfl (by kernel_rfl) (fun _ _ _ h=>h) (by rfl) (fun w hS=>?_) ?_
 rotate_left
 ·(try go_simp)
  refine ⟨?_,hS⟩
  with_reducible rfl
 simp only [Act.put,zA,zB,zC]
 refine gS (i:=19) (some 6) (v:=?_) rfl rfl (by kernel_rfl) (fun _ _ _ h=>h) (by rfl) (fun w hS=>?_) ?_
 rotate_left
 ·(try go_simp)
  refine ⟨?_,hS⟩
  with_reducible rfl
 simp only [Act.put,zA,zB,zC]
 refine qbv (by kernel_rfl) fun w hS=>?_
 go_wp2
 go_ret
 exact ⟨rfl,hx1.trans hS⟩
theorem qq5 (b i j k s0 s1 s2 s3 s4 s5 K t : Nat) (M x : UInt64) (w : World) (hb : b ≤ 64) (hi : 0 < i) (hi1 : i < b) (hj : 0 < j) (hj1 : j < b) (hk : 0 < k) (hk1 : k < b) (hT : Row w t 3 [.int .i64 (i : Int),.int .i64 (j : Int),.int .i64 (k : Int)]) :
  Calls Tryz.prog 101 #[.agg #[.int .i64 (b : Int),.slice (some ⟨s0,0,none⟩) 3 3,.slice (some ⟨s1,0,none⟩) 3 3,.slice (some ⟨s2,0,none⟩) 3 3,.slice (some ⟨s3,0,none⟩) 3 3,.int .u64 (n64 M),.slice (some ⟨s4,0,none⟩) K K,.slice (some ⟨s5,0,none⟩) 8 8],.int .u64 (n64 x),.slice (some ⟨t,0,none⟩) 3 3] w fun e w'=>e = .returned (.int .u64 (n64 (qfx b M x i j k)))∧Ext w w':=by
 have q1:=fun w=>qpt b i s0 s1 s2 s3 s4 s5 K M x w hb hi hi1
 have q2:=fun w=>qpt b j s0 s1 s2 s3 s4 s5 K M x w hb hj hj1
 have q3:=fun w=>qpt b k s0 s1 s2 s3 s4 s5 K M x w hb hk hk1
 have e : qfx b M x i j k = rotG b M x i ^^^ rotG b M x j ^^^ rotG b M x k:=rfl
 rw [e]
 clear e
 generalize rotG b M x k = y3 at *
 generalize rotG b M x i = y1 at *
 generalize rotG b M x j = y2 at *
 go_enter Tryz.func101,Tryz.ntmps101
 go_wp2
 obtain ⟨w1,hw1⟩ : ∃ w1,w1 = w.alloc (.cells #[.int .i64 (b : Int),.slice (some ⟨s0,0,none⟩) 3 3,.slice (some ⟨s1,0,none⟩) 3 3,.slice (some ⟨s2,0,none⟩) 3 3,.slice (some ⟨s3,0,none⟩) 3 3,.int .u64 (n64 M),.slice (some ⟨s4,0,none⟩) K K,.slice (some ⟨s5,0,none⟩) 8 8] 81):=⟨_,rfl⟩
 obtain ⟨B,hB⟩ : ∃ B,B = w.heap.size:=⟨_,rfl⟩
 rw [← hw1,← hB]
 have hx1 : Ext w w1:=by rw [hw1];exact qaa _ _
 have hR : Row w1 B 81 [.int .i64 (b : Int),.slice (some ⟨s0,0,none⟩) 3 3,.slice (some ⟨s1,0,none⟩) 3 3,.slice (some ⟨s2,0,none⟩) 3 3,.slice (some ⟨s3,0,none⟩) 3 3,.int .u64 (n64 M),.slice (some ⟨s4,0,none⟩) K K,.slice (some ⟨s5,0,none⟩) 8 8]:=by rw [hw1,hB];exact Row.alloc w [.int .i64 (b : Int),.slice (some ⟨s0,0,none⟩) 3 3,.slice (some ⟨s1,0,none⟩) 3 3,.slice (some ⟨s2,0,none⟩) 3 3,.slice (some ⟨s3,0,none⟩) 3 3,.int .u64 (n64 M),.slice (some ⟨s4,0,none⟩) K K,.slice (some ⟨s5,0,none⟩) 8 8] _
 have hT1:=hT.ext hx1
 clear hw1 hB hT
 have c0 : w1.cell? ⟨B,0,none⟩ = some (.int .i64 (b : Int)):=(hR.cell (i:=0) (by simp)).trans rfl
 have c1 : w1.cell? ⟨B,1,none⟩ = some (.slice (some ⟨s0,0,none⟩) 3 3):=(hR.cell (i:=1) (by simp)).trans rfl
 have c2 : w1.cell? ⟨B,2,none⟩ = some (.slice (some ⟨s1,0,none⟩) 3 3):=(hR.cell (i:=2) (by simp)).trans rfl
 have c3 : w1.cell? ⟨B,3,none⟩ = some (.slice (some ⟨s2,0,none⟩) 3 3):=(hR.cell (i:=3) (by simp)).trans rfl
 have c4 : w1.cell? ⟨B,4,none⟩ = some (.slice (some ⟨s3,0,none⟩) 3 3):=(hR.cell (i:=4) (by simp)).trans rfl
 have c5 : w1.cell? ⟨B,5,none⟩ = some (.int .u64 (n64 M)):=(hR.cell (i:=5) (by simp)).trans rfl
 have c6 : w1.cell? ⟨B,6,none⟩ = some (.slice (some ⟨s4,0,none⟩) K K):=(hR.cell (i:=6) (by simp)).trans rfl
 have c7 : w1.cell? ⟨B,7,none⟩ = some (.slice (some ⟨s5,0,none⟩) 8 8):=(hR.cell (i:=7) (by simp)).trans rfl
 have d0 : w1.cell? ⟨t,0,none⟩ = some (.int .i64 (i : Int)):=(hT1.cell (i:=0) (by simp)).trans rfl
 have d1 : w1.cell? ⟨t,1,none⟩ = some (.int .i64 (j : Int)):=(hT1.cell (i:=1) (by simp)).trans rfl
 have d2 : w1.cell? ⟨t,2,none⟩ = some (.int .i64 (k : Int)):=(hT1.cell (i:=2) (by simp)).trans rfl
 refine qbd (fun w'=>Ext w1 w') (by kernel_rfl) (qae _) ?_
 refine gS (i:=0) (some 7) (v:=?_) rfl rfl (by kernel_rfl) (fun _ _ _ h=>h) (by rfl) (fun w hS=>?_) ?_
 rotate_left
 ·have e1:=Ext.cell hS c0;have e2:=Ext.cell hS c1;have e3:=Ext.cell hS c2;have e4:=Ext.cell hS c3;have e5:=Ext.cell hS c4;have e6:=Ext.cell hS c5;have e7:=Ext.cell hS c6;have e8:=Ext.cell hS c7
  go_simp
  refine ⟨?_,hS⟩
  with_reducible rfl
 simp only [Act.put,zA,zB,zC]
 refine gS (i:=1) (some 8) (v:=?_) rfl rfl (by kernel_rfl) (fun _ _ _ h=>h) (by rfl) (fun w hS=>?_) ?_
 rotate_left
 ·(try go_simp)
  refine ⟨?_,hS⟩
  with_reducible rfl
 simp only [Act.put,zA,zB,zC]
 refine gS (i:=2) (some 9) (v:=?_) rfl rfl (by kernel_rfl) (fun _ _ _ h=>h) (by rfl) (fun w hS=>?_) ?_
 rotate_left
 ·(try go_simp)
  refine ⟨?_,hS⟩
  with_reducible rfl
 simp only [Act.put,zA,zB,zC]
 refine gS (i:=3) (some 10) (v:=?_) rfl rfl (by kernel_rfl) (fun _ _ _ h=>h) (by rfl) (fun w hS=>?_) ?_
 rotate_left
 ·(try go_simp)
  refine ⟨?_,hS⟩
  with_reducible rfl
 simp only [Act.put,zA,zB,zC]
 refine gS (i:=4) (some 11) (v:=?_) rfl rfl (by kernel_rfl) (fun _ _ _ h=>h) (by rfl) (fun w hS=>?_) ?_
 rotate_left
 ·have e1:=Ext.cell hS d0
  go_simp
  refine ⟨?_,hS⟩
  with_reducible rfl
 simp only [Act.put,zA,zB,zC]
 refine gS (i:=5) (some 12) (v:=?_) rfl rfl (by kernel_rfl) (fun _ _ _ h=>h) (by rfl) (fun w hS=>?_) ?_
 rotate_left
 ·go_simp
  change Calls _ _ _ _ _
  refine Calls.mono (q1 _) ?_
  rintro e w' ⟨rfl,hx⟩
  refine ⟨?_,hS.trans hx⟩
  with_reducible rfl
 simp only [Act.put,zA,zB,zC]
 refine gS (i:=6) (some 13) (v:=?_) rfl rfl (by kernel_rfl) (fun _ _ _ h=>h) (by rfl) (fun w hS=>?_) ?_
 rotate_left
 ·have e1:=Ext.cell hS c0;have e2:=Ext.cell hS c1;have e3:=Ext.cell hS c2;have e4:=Ext.cell hS c3;have e5:=Ext.cell hS c4;have e6:=Ext.cell hS c5;have e7:=Ext.cell hS c6;have e8:=Ext.cell hS c7
  go_simp
  refine ⟨?_,hS⟩
  with_reducible rfl
 simp only [Act.put,zA,zB,zC]
 refine gS (i:=7) (some 14) (v:=?_) rfl rfl (by kernel_rfl) (fun _ _ _ h=>h) (by rfl) (fun w hS=>?_) ?_
 rotate_left
 ·(try go_simp)
  refine ⟨?_,hS⟩
  with_reducible rfl
 simp only [Act.put,zA,zB,zC]
 refine gS (i:=8) (some 15) (v:=?_) rfl rfl (by kernel_rfl) (fun _ _ _ h=>h) (by rfl) (fun w hS=>?_) ?_
 rotate_left
 ·(try go_simp)
  refine ⟨?_,hS⟩
  with_reducible rfl
 simp only [Act.put,zA,zB,zC]
 refine gS (i:=9) (some 16) (v:=?_) rfl rfl (by kernel_rfl) (fun _ _ _ h=>h) (by rfl) (fun w hS=>?_) ?_
 rotate_left
 ·(try go_simp)
  refine ⟨?_,hS⟩
  with_reducible rfl
 simp only [Act.put,zA,zB,zC]
 refine gS (i:=10) (some 17) (v:=?_) rfl rfl (by kernel_rfl) (fun _ _ _ h=>h) (by rfl) (fun w hS=>?_) ?_
 rotate_left
 ·have e1:=Ext.cell hS d1
  go_simp
  refine ⟨?_,hS⟩
  with_reducible rfl
 simp only [Act.put,zA,zB,zC]
 refine gS (i:=11) (some 18) (v:=?_) rfl rfl (by kernel_rfl) (fun _ _ _ h=>h) (by rfl) (fun w hS=>?_) ?_
 rotate_left
 ·go_simp
  change Calls _ _ _ _ _
  refine Calls.mono (q2 _) ?_
  rintro e w' ⟨rfl,hx⟩
  refine ⟨?_,hS.trans hx⟩
  with_reducible rfl
 simp only [Act.put,zA,zB,zC]
 refine gS (i:=12) (some 19) (v:=?_) rfl rfl (by kernel_rfl) (fun _ _ _ h=>h) (by rfl) (fun w hS=>?_) ?_
 rotate_left
 ·(try go_simp)
  refine ⟨?_,hS⟩
  with_reducible rfl
 simp only [Act.put,zA,zB,zC]
 refine gS (i:=13) (some 20) (v:=?_) rfl rfl (by kernel_rfl) (fun _ _ _ h=>h) (by rfl) (fun w hS=>?_) ?_
 rotate_left
 ·have e1:=Ext.cell hS c0;have e2:=Ext.cell hS c1;have e3:=Ext.cell hS c2;have e4:=Ext.cell hS c3;have e5:=Ext.cell hS c4;have e6:=Ext.cell hS c5;have e7:=Ext.cell hS c6;have e8:=Ext.cell hS c7
  go_simp
  refine ⟨?_,hS⟩
  with_reducible rfl
 simp only [Act.put,zA,zB,zC]
 refine gS (i:=14) (some 21) (v:=?_) rfl rfl (by kernel_rfl) (fun _ _ _ h=>h) (by rfl) (fun w hS=>?_) ?_
 rotate_left
 ·(try go_simp)
  refine ⟨?_,hS⟩
  with_reducible rfl
 simp only [Act.put,zA,zB,zC]
 refine gS (i:=15) (some 22) (v:=?_) rfl rfl (by kernel_rfl) (fun _ _ _ h=>h) (by rfl) (fun w hS=>?_) ?_
 rotate_left
 ·(try go_simp)
  refine ⟨?_,hS⟩
  with_reducible rfl
 simp only [Act.put,zA,zB,zC]
 refine gS (i:=16) (some 23) (v:=?_) rfl rfl (by kernel_rfl) (fun _ _ _ h=>h) (by rfl) (fun w hS=>?_) ?_
 rotate_left
 ·(try go_simp)
  refine ⟨?_,hS⟩
  with_reducible rfl
 simp only [Act.put,zA,zB,zC]
 refine gS (i:=17) (some 24) (v:=?_) rfl rfl (by kernel_rfl) (fun _ _ _ h=>h) (by rfl) (fun w hS=>?_) ?_
 rotate_left
 ·have e1:=Ext.cell hS d2
  go_simp
  refine ⟨?_,hS⟩
  with_reducible rfl
 simp only [Act.put,zA,zB,zC]
 refine gS (i:=18) (some 25) (v:=?_) rfl rfl (by kernel_rfl) (fun _ _ _ h=>h) (by rfl) (fun w hS=>?_) ?_
 rotate_left
 ·go_simp
  change Calls _ _ _ _ _
  refine Calls.mono (q3 _) ?_
  rintro e w' ⟨rfl,hx⟩
  refine ⟨?_,hS.trans hx⟩
  with_reducible rfl
 simp only [Act.put,zA,zB,zC]
 refine gS (i:=19) (some 26) (v:=?_) rfl rfl (by kernel_rfl) (fun _ _ _ h=>h) (by rfl) (fun w hS=>?_) ?_
 rotate_left
 ·(try go_simp)
  refine ⟨?_,hS⟩
  with_reducible rfl
 simp only [Act.put,zA,zB,zC]
 refine gS (i:=20) (some 6) (v:=?_) rfl rfl (by kernel_rfl) (fun _ _ _ h=>h) (by rfl) (fun w hS=>?_) ?_
 rotate_left
 ·(try go_simp)
  refine ⟨?_,hS⟩
  with_reducible rfl
 simp only [Act.put,zA,zB,zC]
 refine qbv (by kernel_rfl) fun w hS=>?_
 go_wp2
 go_ret
 exact ⟨rfl,hx1.trans hS⟩
end Go.Proofs.YtgeihelkkhjjaaaGreatDoor
end
section
namespace Go.Cv
open Go.RowKit
structure Under (B : Nat) (bs : List Nat) (w w' : World) : Prop where
 os : w'.os = w.os
 tape : w'.tape = w.tape
 output : w'.output = w.output
 size : w.heap.size ≤ w'.heap.size
 keep : ∀ k,k < B→k ∉ bs→w'.heap[k]? = w.heap[k]?
theorem Under.refl (B : Nat) (bs : List Nat) (w : World) : Under B bs w w:=⟨rfl,rfl,rfl,Nat.le_refl _,fun _ _ _=>rfl⟩
theorem Under.trans {B : Nat} {bs : List Nat} {a b c : World} (h : Under B bs a b) (k : Under B bs b c) : Under B bs a c :=
 ⟨k.os.trans h.os,k.tape.trans h.tape,k.output.trans h.output,Nat.le_trans h.size k.size,fun x hx hn=>(k.keep x hx hn).trans (h.keep x hx hn)⟩
theorem Under.of_below {B : Nat} {bs : List Nat} {a b : World} (h : Below B a b) : Under B bs a b:=⟨h.os,h.tape,h.output,h.size,fun k hk _=>h.block k hk⟩
theorem Under.of_keep {B : Nat} {bs cs : List Nat} {a b : World} (h : Keep cs a b) (hB : B ≤ a.heap.size) (hc : ∀ x ∈ cs,x ∈ bs ∨ B ≤ x) : Under B bs a b :=
 ⟨h.os,h.tape,h.output,h.size,fun k hk hn=>h.keep k (by omega) fun hm=>by
  rcases hc k hm with h1 | h1
  ·exact hn h1
  ·omega⟩
theorem Under.mono {B B2 : Nat} {bs : List Nat} {a b : World} (h : Under B bs a b) (hB : B2 ≤ B) : Under B2 bs a b:=⟨h.os,h.tape,h.output,h.size,fun k hk hn=>h.keep k (by omega) hn⟩
theorem Under.row {B : Nat} {bs : List Nat} {w w' : World} {b : Nat} {T : TypeId} {cs : List Value} (h : Under B bs w w') (hr : Row w b T cs) (hb : b < B) (hn : b ∉ bs) : Row w' b T cs:=(h.keep b hb hn).trans hr
theorem Under.below {B C : Nat} {bs : List Nat} {w w' : World} (h : Under B bs w w') (hC : C ≤ B) (hb : ∀ x ∈ bs,C ≤ x) : Below C w w':=⟨h.os,h.tape,h.output,h.size,fun k hk=>h.keep k (by omega) fun hm=>by have:=hb k hm;omega⟩
theorem qjq {w : World} {B n : Nat} {e : TypeId} {v : Value} {xs : List Value} (h : w.ownsRow B e 1 v n xs) (hn : 0 < n) :
  ∃ g sp,v = .slice (some ⟨g,0,none⟩) n (n + sp.length)∧B ≤ g∧n + sp.length ≤ maxLen∧Row w g e (xs ++ sp)∧xs.length = n:=by
 have hl:=h.1
 rcases h.2 with ⟨_,h0⟩ | ⟨g,cap,cur,rfl,hg,hh,hnc,hcm,hs,ht⟩
 ·omega
 ·have e1 : xs ++ cur.toList.drop n = cur.toList:=by rw [← ht,Nat.mul_one,List.take_append_drop]
  have e2 : n + (cur.toList.drop n).length = cap:=by rw [List.length_drop,Array.length_toList,hs];omega
  refine ⟨g,cur.toList.drop n,by rw [e2],hg,by omega,?_,by omega⟩
  unfold Row
  rw [e1]
  simpa using hh
theorem Row.grown {w w' : World} {b base : Nat} {T e : TypeId} {s n : Nat} {cs xs : List Value} {v : Value} (h : Row w b T cs) (ho : w.ownsRow base e s v n xs) (hg : w.grownBy w' v.ownBlock) (hne : e ≠ T) : Row w' b T cs :=
 (hg.block b h.lt (qp4 ho ⟨_,_,h⟩ hne)).trans h
theorem Row.below {w w' : World} {B b : Nat} {T : TypeId} {cs : List Value} (h : Row w b T cs) (hx : Below B w w') (hb : b < B) : Row w' b T cs:=(hx.block b hb).trans h
end Go.Cv
namespace Go.Cv.Hash
open Go.RowKit
structure Kd where
 (b : Nat)
 (M : UInt64)
 (p0 p1 p2 q0 q1 q2 r0 r1 r2 t0 t1 t2 : Nat)
 (ks : List UInt64)
structure Kd.Ok (D : Kd) : Prop where
 b : D.b ≤ 64
 p0 : 0 < D.p0
 p0b : D.p0 < D.b
 p1 : 0 < D.p1
 p1b : D.p1 < D.b
 p2 : D.p2 < 64
 q0 : 0 < D.q0
 q0b : D.q0 < D.b
 q1 : 0 < D.q1
 q1b : D.q1 < D.b
 q2 : D.q2 < 64
 r0 : 0 < D.r0
 r0b : D.r0 < D.b
 r1 : 0 < D.r1
 r1b : D.r1 < D.b
 r2 : 0 < D.r2
 r2b : D.r2 < D.b
 t0 : 0 < D.t0
 t0b : D.t0 < D.b
 t1 : 0 < D.t1
 t1b : D.t1 < D.b
 t2 : 0 < D.t2
 t2b : D.t2 < D.b
def nxtG (D : Kd) (l : List UInt64) : UInt64:=(qew D.b D.M (l.getD (l.length - 2) 0) D.q0 D.q1 D.q2 + l.getD (l.length - 7) 0 + qew D.b D.M (l.getD (l.length - 15) 0) D.p0 D.p1 D.p2 + l.getD (l.length - 16) 0) &&& D.M
def qgk (D : Kd) : Nat→List UInt64→List UInt64
 | 0,l=>l
 | n + 1,l=>qgk D n (l ++ [nxtG D l])
def oneG (D : Kd) (s : St64) (k x : UInt64) : UInt64:=s.h + qfx D.b D.M s.e D.t0 D.t1 D.t2 + (s.e &&& s.f ^^^ (D.M ^^^ s.e) &&& s.g) + k + x
def dosG (D : Kd) (s : St64) : UInt64:=qfx D.b D.M s.a D.r0 D.r1 D.r2 + (s.a &&& s.b ^^^ s.a &&& s.c ^^^ s.b &&& s.c)
def rndG (D : Kd) (s : St64) (k x : UInt64) : St64:=⟨(oneG D s k x + dosG D s) &&& D.M,s.a,s.b,s.c,(s.d + oneG D s k x) &&& D.M,s.e,s.f,s.g⟩
def qgw (D : Kd) : List UInt64→List UInt64→St64→St64
 | k :: ks,x :: xs,s=>qgw D ks xs (rndG D s k x)
 | _,_,s=>s
def qlz (D : Kd) (s t : St64) : St64:=⟨(s.a + t.a) &&& D.M,(s.b + t.b) &&& D.M,(s.c + t.c) &&& D.M,(s.d + t.d) &&& D.M,(s.e + t.e) &&& D.M,(s.f + t.f) &&& D.M,(s.g + t.g) &&& D.M,(s.h + t.h) &&& D.M⟩
def qfa (D : Kd) (ws : List UInt64) (s : St64) : St64:=qlz D s (qgw D D.ks (qgk D (D.ks.length - 16) ws) s)
def shl (s : St64) : Nat→List UInt64
 | 0=>[s.a,s.a,s.b,s.c,s.d,s.e,s.f,s.g]
 | 1=>[s.a,s.b,s.b,s.c,s.d,s.e,s.f,s.g]
 | 2=>[s.a,s.b,s.c,s.c,s.d,s.e,s.f,s.g]
 | 3=>[s.a,s.b,s.c,s.d,s.d,s.e,s.f,s.g]
 | 4=>[s.a,s.b,s.c,s.d,s.e,s.e,s.f,s.g]
 | 5=>[s.a,s.b,s.c,s.d,s.e,s.f,s.f,s.g]
 | 6=>[s.a,s.b,s.c,s.d,s.e,s.f,s.g,s.g]
 | _=>[s.a,s.b,s.c,s.d,s.e,s.f,s.g,s.h]
theorem qls (s : St64) (j : Nat) : (shl s j).length = 8:=by unfold shl;split <;> rfl
theorem shl_at (s : St64) (j : Nat) (h : j < 7) : (shl s (j + 1)).getD j 0 = s.l.getD j 0∧(shl s (j + 1)).set (j + 1) (s.l.getD j 0) = shl s j:=by
 rcases (by omega : j = 0 ∨ j = 1 ∨ j = 2 ∨ j = 3 ∨ j = 4 ∨ j = 5 ∨ j = 6) with rfl | rfl | rfl | rfl | rfl | rfl | rfl
 all_goals exact ⟨rfl,rfl⟩
def addG (D : Kd) (h v : List UInt64) : Nat→List UInt64
 | 0=>h
 | i + 1=>(addG D h v i).set i ((h.getD i 0 + v.getD i 0) &&& D.M)
theorem qr2 (D : Kd) (h v : List UInt64) : ∀ i j,i ≤ j→(addG D h v i).getD j 0 = h.getD j 0
 | 0,_,_=>rfl
 | i + 1,j,hj=>by
  simp only [addG]
  rw [List.getD_eq_getElem?_getD,List.getElem?_set_ne (by omega),← List.getD_eq_getElem?_getD]
  exact qr2 D h v i j (by omega)
theorem addG_8 (D : Kd) (s t : St64) : addG D s.l t.l 8 = (qlz D s t).l:=rfl
theorem Row.at64 {w : World} {g : Nat} {T : TypeId} {xs : List UInt64} {sp : List Value} (h : Row w g T (xs.map wv64 ++ sp)) {j : Nat} (hj : j < xs.length) : w.cell? ⟨g,j,none⟩ = some (.int .u64 (n64 (xs.getD j 0))):=by
 rw [h.cell (by simp;omega),List.getElem_append_left (by simpa using hj),List.getElem_map,qbo xs j hj]
 rfl
theorem qkm (l : List UInt64) : ∀ u ∈ l.map wv64,u.oneCell' = true:=by
 intro u hu
 obtain ⟨x,_,rfl⟩:=List.mem_map.1 hu
 rfl
end Go.Cv.Hash
namespace Go.Proofs.YtgeihelkkhjjaaaGreatDoor
open Go.RowKit Go.Cv Go.Cv.Hash Go.Cv.Dig
theorem qmq : RowT Tryz.prog 71 73 8:=RowT.of (z:=.int .u64 0) Tryz.underlying71 (by kernel_rfl) rfl
theorem block_g (D : Kd) (s0 s1 s2 s3 s4 s5 K B bh hc cx : Nat) (s : St64) (hsp : List Value) (A : Option Addr) (ws : List UInt64) (w : World) (ok : D.Ok) (hkl : D.ks.length = K) (hK : 16 ≤ K) (hK2 : K ≤ 200)
  (r0 : Row w s0 3 [.int .i64 (D.p0 : Int),.int .i64 (D.p1 : Int),.int .i64 (D.p2 : Int)]) (r1 : Row w s1 3 [.int .i64 (D.q0 : Int),.int .i64 (D.q1 : Int),.int .i64 (D.q2 : Int)]) (r2 : Row w s2 3 [.int .i64 (D.r0 : Int),.int .i64 (D.r1 : Int),.int .i64 (D.r2 : Int)]) (r3 : Row w s3 3 [.int .i64 (D.t0 : Int),.int .i64 (D.t1 : Int),.int .i64 (D.t2 : Int)]) (r4 : Row w s4 73 (D.ks.map wv64))
  (l0 : s0 < B) (l1 : s1 < B) (l2 : s2 < B) (l3 : s3 < B) (l4 : s4 < B) (hB : B ≤ w.heap.size) (hH : Row w bh 73 (s.l.map wv64 ++ hsp)) (lH : bh < B) (n4 : s4 ≠ bh)
  (hX : w.ownsRow B 73 1 (.slice A 16 cx) 16 (ws.map wv64)) :
  Calls Tryz.prog 83 #[.agg #[.int .i64 (D.b : Int),.slice (some ⟨s0,0,none⟩) 3 3,.slice (some ⟨s1,0,none⟩) 3 3,.slice (some ⟨s2,0,none⟩) 3 3,.slice (some ⟨s3,0,none⟩) 3 3,.int .u64 (n64 D.M),.slice (some ⟨s4,0,none⟩) K K,.slice (some ⟨s5,0,none⟩) 8 8],.slice (some ⟨bh,0,none⟩) 8 hc,.slice A 16 cx] w fun e w' =>
   e = .returned (.tuple #[])∧Row w' bh 73 ((qfa D ws s).l.map wv64 ++ hsp)∧Under B [bh] w w':=by
 have hwl : ws.length = 16:=by have:=hX.1;simpa using this
 have hblk0 : qfa D ws s = qlz D s (qgw D D.ks (qgk D (K - 16) ws) s):=by rw [← hkl];rfl
 have HKL:=Lib.hid hkl
 have HBL:=Lib.hid hblk0
 clear hkl hblk0
 go_enter Tryz.func83,Tryz.ntmps83
 go_wp2
 obtain ⟨w1,hw1⟩ : ∃ w1,w1 = w.alloc (.cells #[.int .i64 (D.b : Int),.slice (some ⟨s0,0,none⟩) 3 3,.slice (some ⟨s1,0,none⟩) 3 3,.slice (some ⟨s2,0,none⟩) 3 3,.slice (some ⟨s3,0,none⟩) 3 3,.int .u64 (n64 D.M),.slice (some ⟨s4,0,none⟩) K K,.slice (some ⟨s5,0,none⟩) 8 8] 81):=⟨_,rfl⟩
 obtain ⟨bk,hbk⟩ : ∃ bk,bk = w.heap.size:=⟨_,rfl⟩
 rw [← hw1,← hbk]
 have hx1 : Ext w w1:=by rw [hw1];exact qaa _ _
 have hR : Row w1 bk 81 [.int .i64 (D.b : Int),.slice (some ⟨s0,0,none⟩) 3 3,.slice (some ⟨s1,0,none⟩) 3 3,.slice (some ⟨s2,0,none⟩) 3 3,.slice (some ⟨s3,0,none⟩) 3 3,.int .u64 (n64 D.M),.slice (some ⟨s4,0,none⟩) K K,.slice (some ⟨s5,0,none⟩) 8 8]:=by rw [hw1,hbk];exact Row.alloc w [.int .i64 (D.b : Int),.slice (some ⟨s0,0,none⟩) 3 3,.slice (some ⟨s1,0,none⟩) 3 3,.slice (some ⟨s2,0,none⟩) 3 3,.slice (some ⟨s3,0,none⟩) 3 3,.int .u64 (n64 D.M),.slice (some ⟨s4,0,none⟩) K K,.slice (some ⟨s5,0,none⟩) 8 8] _
 have hBk : B ≤ bk:=by omega
 have hX1:=qbc hX hx1
 have hs1 : B ≤ w1.heap.size:=Nat.le_trans hB hx1.size
 have hu1 : Below B w w1:=Below.mono hx1 hB
 clear hw1 hbk hX
 go_loopw [6,7] (fun t6 t7 wr=>∃ (i : Nat) (xs : List UInt64),16 ≤ i∧i ≤ K∧t7 = .int .i64 i∧wr.ownsRow B 73 1 t6 i (xs.map wv64)∧Hid (qgk D (K - i) xs = qgk D (K - 16) ws)∧Row wr bk 81 [.int .i64 (D.b : Int),.slice (some ⟨s0,0,none⟩) 3 3,.slice (some ⟨s1,0,none⟩) 3 3,.slice (some ⟨s2,0,none⟩) 3 3,.slice (some ⟨s3,0,none⟩) 3 3,.int .u64 (n64 D.M),.slice (some ⟨s4,0,none⟩) K K,.slice (some ⟨s5,0,none⟩) 8 8]∧Below B w1 wr) (fun _ t7 _=>K - (intOf t7).toNat)
 case atStart=>exact ⟨16,ws,by decide,by omega,rfl,hX1,Lib.hid rfl,hR,Below.refl _ _⟩
 case round =>
  obtain ⟨i,xs,hi16,hi,rfl,ho,hsc,hR,hbl⟩:=hrel
  obtain ⟨g,sp,rfl,hgB,hgm,hRx,hxl⟩:=qjq ho (by omega)
  have hxl' : xs.length = i:=by simpa using hxl
  have HXL:=Lib.hid hxl'
  have hsz : B ≤ wr.heap.size:=Nat.le_trans hs1 hbl.size
  have c0 : wr.cell? ⟨bk,0,none⟩ = some (.int .i64 (D.b : Int)):=(hR.cell (i:=0) (by simp)).trans rfl
  have c1 : wr.cell? ⟨bk,1,none⟩ = some (.slice (some ⟨s0,0,none⟩) 3 3):=(hR.cell (i:=1) (by simp)).trans rfl
  have c2 : wr.cell? ⟨bk,2,none⟩ = some (.slice (some ⟨s1,0,none⟩) 3 3):=(hR.cell (i:=2) (by simp)).trans rfl
  have c3 : wr.cell? ⟨bk,3,none⟩ = some (.slice (some ⟨s2,0,none⟩) 3 3):=(hR.cell (i:=3) (by simp)).trans rfl
  have c4 : wr.cell? ⟨bk,4,none⟩ = some (.slice (some ⟨s3,0,none⟩) 3 3):=(hR.cell (i:=4) (by simp)).trans rfl
  have c5 : wr.cell? ⟨bk,5,none⟩ = some (.int .u64 (n64 D.M)):=(hR.cell (i:=5) (by simp)).trans rfl
  have c6 : wr.cell? ⟨bk,6,none⟩ = some (.slice (some ⟨s4,0,none⟩) K K):=(hR.cell (i:=6) (by simp)).trans rfl
  have c7 : wr.cell? ⟨bk,7,none⟩ = some (.slice (some ⟨s5,0,none⟩) 8 8):=(hR.cell (i:=7) (by simp)).trans rfl
  by_cases hik : i < K
  ·have hik' : (i : Int) < K:=by omega
   have z1:=(r1.below hu1 l1).below hbl l1
   have z0:=(r0.below hu1 l0).below hbl l0
   obtain ⟨i2,z2⟩ : ∃ j : Nat,j = i - 2:=⟨_,rfl⟩
   have e2 : (i : Int) - 2 = (i2 : Int):=by omega
   have v2 : IntKind.i64.wrap (i2 : Int) = (i2 : Int):=IntWalk.i64_in _ (by omega)
   have g2 : 0 ≤ (i2 : Int)∧(i2 : Int) < i:=by omega
   have x2 : wr.cell? ⟨g,i2,none⟩ = some (.int .u64 (n64 (xs.getD i2 0))):=Row.at64 hRx (by omega)
   obtain ⟨i7,z7⟩ : ∃ j : Nat,j = i - 7:=⟨_,rfl⟩
   have e7 : (i : Int) - 7 = (i7 : Int):=by omega
   have v7 : IntKind.i64.wrap (i7 : Int) = (i7 : Int):=IntWalk.i64_in _ (by omega)
   have g7 : 0 ≤ (i7 : Int)∧(i7 : Int) < i:=by omega
   have x7 : wr.cell? ⟨g,i7,none⟩ = some (.int .u64 (n64 (xs.getD i7 0))):=Row.at64 hRx (by omega)
   obtain ⟨i15,z15⟩ : ∃ j : Nat,j = i - 15:=⟨_,rfl⟩
   have e15 : (i : Int) - 15 = (i15 : Int):=by omega
   have v15 : IntKind.i64.wrap (i15 : Int) = (i15 : Int):=IntWalk.i64_in _ (by omega)
   have g15 : 0 ≤ (i15 : Int)∧(i15 : Int) < i:=by omega
   have x15 : wr.cell? ⟨g,i15,none⟩ = some (.int .u64 (n64 (xs.getD i15 0))):=Row.at64 hRx (by omega)
   obtain ⟨i16,z16⟩ : ∃ j : Nat,j = i - 16:=⟨_,rfl⟩
   have e16 : (i : Int) - 16 = (i16 : Int):=by omega
   have v16 : IntKind.i64.wrap (i16 : Int) = (i16 : Int):=IntWalk.i64_in _ (by omega)
   have g16 : 0 ≤ (i16 : Int)∧(i16 : Int) < i:=by omega
   have x16 : wr.cell? ⟨g,i16,none⟩ = some (.int .u64 (n64 (xs.getD i16 0))):=Row.at64 hRx (by omega)
   have hnx : Hid (nxtG D xs = (qew D.b D.M (xs.getD i2 0) D.q0 D.q1 D.q2 + xs.getD i7 0 + qew D.b D.M (xs.getD i15 0) D.p0 D.p1 D.p2 + xs.getD i16 0) &&& D.M):=Lib.hid (by unfold nxtG;rw [hxl',z2,z7,z15,z16])
   clear z2 z7 z15 z16 hxl hxl'
   generalize xs.getD i2 0 = y2 at *
   generalize xs.getD i7 0 = y7 at *
   generalize xs.getD i15 0 = y15 at *
   generalize xs.getD i16 0 = y16 at *
   have q1:=fun w h=>qpg D.b D.q0 D.q1 D.q2 s0 s1 s2 s3 s4 s5 K s1 D.M y2 w ok.b ok.q0 ok.q0b ok.q1 ok.q1b ok.q2 h
   have q0:=fun w h=>qpg D.b D.p0 D.p1 D.p2 s0 s1 s2 s3 s4 s5 K s0 D.M y15 w ok.b ok.p0 ok.p0b ok.p1 ok.p1b ok.p2 h
   generalize qew D.b D.M y2 D.q0 D.q1 D.q2 = m1 at *
   generalize qew D.b D.M y15 D.p0 D.p1 D.p2 = m0 at *
   obtain ⟨X,hX⟩ : ∃ X,X = (m1 + y7 + m0 + y16) &&& D.M:=⟨_,rfl⟩
   rw [← hX] at hnx
   go_upto_region 5 with fail
   refine qht (fun w'=>Ext wr w') 35 (List.range 36).reverse (some 24) (v0:=.slice (some ⟨g,0,none⟩) i (i + sp.length)) (by kernel_rfl) (qae _) rfl (by decide) rfl rfl (by kernel_rfl) (by kernel_rfl) (by kernel_rfl) (fun _ _ _ h=>h) (.inl ⟨by rfl,fun w=>by first | rfl | go_simp⟩) rfl (by kernel_rfl) rfl (by kernel_rfl) (by kernel_rfl) ?_
   simp only [Act.put,zA,zB,zC]
   refine qas (i:=1) (some 25) (v:=?_) (by rfl) rfl rfl (by kernel_rfl) (by kernel_rfl) (by kernel_rfl) (fun _ _ _ h=>h) (.inl ⟨by rfl,fun w hS=>?_⟩) ?_
   rotate_left
   ·have e1:=Ext.cell hS c0;have e2:=Ext.cell hS c1;have e3:=Ext.cell hS c2;have e4:=Ext.cell hS c3;have e5:=Ext.cell hS c4;have e6:=Ext.cell hS c5;have e7:=Ext.cell hS c6;have e8:=Ext.cell hS c7
    go_simp
    refine ⟨?_,hS⟩
    with_reducible rfl
   simp only [Act.put,zA,zB,zC]
   refine qas (i:=2) (some 26) (v:=?_) (by rfl) rfl rfl (by kernel_rfl) (by kernel_rfl) (by kernel_rfl) (fun _ _ _ h=>h) (.inl ⟨by rfl,fun w hS=>?_⟩) ?_
   rotate_left
   ·(try go_simp)
    refine ⟨?_,hS⟩
    with_reducible rfl
   simp only [Act.put,zA,zB,zC]
   refine qas (i:=3) (some 27) (v:=?_) (by rfl) rfl rfl (by kernel_rfl) (by kernel_rfl) (by kernel_rfl) (fun _ _ _ h=>h) (.inl ⟨by rfl,fun w hS=>?_⟩) ?_
   rotate_left
   ·(try go_simp)
    refine ⟨?_,hS⟩
    with_reducible rfl
   simp only [Act.put,zA,zB,zC]
   refine qas (i:=4) (some 28) (v:=?_) (by rfl) rfl rfl (by kernel_rfl) (by kernel_rfl) (by kernel_rfl) (fun _ _ _ h=>h) (.inl ⟨by rfl,fun w hS=>?_⟩) ?_
   rotate_left
   ·(try go_simp)
    refine ⟨?_,hS⟩
    with_reducible rfl
   simp only [Act.put,zA,zB,zC]
   refine qas (i:=5) (some 29) (v:=?_) (by rfl) rfl rfl (by kernel_rfl) (by kernel_rfl) (by kernel_rfl) (fun _ _ _ h=>h) (.inl ⟨by rfl,fun w hS=>?_⟩) ?_
   rotate_left
   ·(try go_simp)
    refine ⟨?_,hS⟩
    with_reducible rfl
   simp only [Act.put,zA,zB,zC]
   refine qas (i:=6) (some 30) (v:=?_) (by rfl) rfl rfl (by kernel_rfl) (by kernel_rfl) (by kernel_rfl) (fun _ _ _ h=>h) (.inl ⟨by rfl,fun w hS=>?_⟩) ?_
   rotate_left
   ·have e1:=Ext.cell hS x2
    go_simp
    refine ⟨?_,hS⟩
    with_reducible rfl
   simp only [Act.put,zA,zB,zC]
   refine qas (i:=7) (some 31) (v:=?_) (by rfl) rfl rfl (by kernel_rfl) (by kernel_rfl) (by kernel_rfl) (fun _ _ _ h=>h) (.inl ⟨by rfl,fun w hS=>?_⟩) ?_
   rotate_left
   ·(try go_simp)
    refine ⟨?_,hS⟩
    with_reducible rfl
   simp only [Act.put,zA,zB,zC]
   refine qas (i:=8) (some 32) (v:=?_) (by rfl) rfl rfl (by kernel_rfl) (by kernel_rfl) (by kernel_rfl) (fun _ _ _ h=>h) (.inl ⟨by rfl,fun w hS=>?_⟩) ?_
   rotate_left
   ·have e1:=Ext.cell hS c2
    go_simp
    refine ⟨?_,hS⟩
    with_reducible rfl
   simp only [Act.put,zA,zB,zC]
   refine qas (i:=9) (some 33) (v:=?_) (by rfl) rfl rfl (by kernel_rfl) (by kernel_rfl) (by kernel_rfl) (fun _ _ _ h=>h) (.inl ⟨by rfl,fun w hS=>?_⟩) ?_
   rotate_left
   ·go_simp
    change Calls _ _ _ _ _
    refine Calls.mono (q1 _ (z1.ext hS)) ?_
    rintro e w' ⟨rfl,hx⟩
    refine ⟨?_,hS.trans hx⟩
    with_reducible rfl
   simp only [Act.put,zA,zB,zC]
   refine qas (i:=10) (some 34) (v:=?_) (by rfl) rfl rfl (by kernel_rfl) (by kernel_rfl) (by kernel_rfl) (fun _ _ _ h=>h) (.inl ⟨by rfl,fun w hS=>?_⟩) ?_
   rotate_left
   ·(try go_simp)
    refine ⟨?_,hS⟩
    with_reducible rfl
   simp only [Act.put,zA,zB,zC]
   refine qas (i:=11) (some 35) (v:=?_) (by rfl) rfl rfl (by kernel_rfl) (by kernel_rfl) (by kernel_rfl) (fun _ _ _ h=>h) (.inl ⟨by rfl,fun w hS=>?_⟩) ?_
   rotate_left
   ·(try go_simp)
    refine ⟨?_,hS⟩
    with_reducible rfl
   simp only [Act.put,zA,zB,zC]
   refine qas (i:=12) (some 36) (v:=?_) (by rfl) rfl rfl (by kernel_rfl) (by kernel_rfl) (by kernel_rfl) (fun _ _ _ h=>h) (.inl ⟨by rfl,fun w hS=>?_⟩) ?_
   rotate_left
   ·(try go_simp)
    refine ⟨?_,hS⟩
    with_reducible rfl
   simp only [Act.put,zA,zB,zC]
   refine qas (i:=13) (some 37) (v:=?_) (by rfl) rfl rfl (by kernel_rfl) (by kernel_rfl) (by kernel_rfl) (fun _ _ _ h=>h) (.inl ⟨by rfl,fun w hS=>?_⟩) ?_
   rotate_left
   ·(try go_simp)
    refine ⟨?_,hS⟩
    with_reducible rfl
   simp only [Act.put,zA,zB,zC]
   refine qas (i:=14) (some 38) (v:=?_) (by rfl) rfl rfl (by kernel_rfl) (by kernel_rfl) (by kernel_rfl) (fun _ _ _ h=>h) (.inl ⟨by rfl,fun w hS=>?_⟩) ?_
   rotate_left
   ·have e1:=Ext.cell hS x7
    go_simp
    refine ⟨?_,hS⟩
    with_reducible rfl
   simp only [Act.put,zA,zB,zC]
   refine qas (i:=15) (some 39) (v:=?_) (by rfl) rfl rfl (by kernel_rfl) (by kernel_rfl) (by kernel_rfl) (fun _ _ _ h=>h) (.inl ⟨by rfl,fun w hS=>?_⟩) ?_
   rotate_left
   ·(try go_simp)
    refine ⟨?_,hS⟩
    with_reducible rfl
   simp only [Act.put,zA,zB,zC]
   refine qas (i:=16) (some 40) (v:=?_) (by rfl) rfl rfl (by kernel_rfl) (by kernel_rfl) (by kernel_rfl) (fun _ _ _ h=>h) (.inl ⟨by rfl,fun w hS=>?_⟩) ?_
   rotate_left
   ·have e1:=Ext.cell hS c0;have e2:=Ext.cell hS c1;have e3:=Ext.cell hS c2;have e4:=Ext.cell hS c3;have e5:=Ext.cell hS c4;have e6:=Ext.cell hS c5;have e7:=Ext.cell hS c6;have e8:=Ext.cell hS c7
    go_simp
    refine ⟨?_,hS⟩
    with_reducible rfl
   simp only [Act.put,zA,zB,zC]
   refine qas (i:=17) (some 41) (v:=?_) (by rfl) rfl rfl (by kernel_rfl) (by kernel_rfl) (by kernel_rfl) (fun _ _ _ h=>h) (.inl ⟨by rfl,fun w hS=>?_⟩) ?_
   rotate_left
   ·(try go_simp)
    refine ⟨?_,hS⟩
    with_reducible rfl
   simp only [Act.put,zA,zB,zC]
   refine qas (i:=18) (some 42) (v:=?_) (by rfl) rfl rfl (by kernel_rfl) (by kernel_rfl) (by kernel_rfl) (fun _ _ _ h=>h) (.inl ⟨by rfl,fun w hS=>?_⟩) ?_
   rotate_left
   ·(try go_simp)
    refine ⟨?_,hS⟩
    with_reducible rfl
   simp only [Act.put,zA,zB,zC]
   refine qas (i:=19) (some 43) (v:=?_) (by rfl) rfl rfl (by kernel_rfl) (by kernel_rfl) (by kernel_rfl) (fun _ _ _ h=>h) (.inl ⟨by rfl,fun w hS=>?_⟩) ?_
   rotate_left
   ·(try go_simp)
    refine ⟨?_,hS⟩
    with_reducible rfl
   simp only [Act.put,zA,zB,zC]
   refine qas (i:=20) (some 44) (v:=?_) (by rfl) rfl rfl (by kernel_rfl) (by kernel_rfl) (by kernel_rfl) (fun _ _ _ h=>h) (.inl ⟨by rfl,fun w hS=>?_⟩) ?_
   rotate_left
   ·(try go_simp)
    refine ⟨?_,hS⟩
    with_reducible rfl
   simp only [Act.put,zA,zB,zC]
   refine qas (i:=21) (some 45) (v:=?_) (by rfl) rfl rfl (by kernel_rfl) (by kernel_rfl) (by kernel_rfl) (fun _ _ _ h=>h) (.inl ⟨by rfl,fun w hS=>?_⟩) ?_
   rotate_left
   ·have e1:=Ext.cell hS x15
    go_simp
    refine ⟨?_,hS⟩
    with_reducible rfl
   simp only [Act.put,zA,zB,zC]
   refine qas (i:=22) (some 46) (v:=?_) (by rfl) rfl rfl (by kernel_rfl) (by kernel_rfl) (by kernel_rfl) (fun _ _ _ h=>h) (.inl ⟨by rfl,fun w hS=>?_⟩) ?_
   rotate_left
   ·(try go_simp)
    refine ⟨?_,hS⟩
    with_reducible rfl
   simp only [Act.put,zA,zB,zC]
   refine qas (i:=23) (some 47) (v:=?_) (by rfl) rfl rfl (by kernel_rfl) (by kernel_rfl) (by kernel_rfl) (fun _ _ _ h=>h) (.inl ⟨by rfl,fun w hS=>?_⟩) ?_
   rotate_left
   ·have e1:=Ext.cell hS c1
    go_simp
    refine ⟨?_,hS⟩
    with_reducible rfl
   simp only [Act.put,zA,zB,zC]
   refine qas (i:=24) (some 48) (v:=?_) (by rfl) rfl rfl (by kernel_rfl) (by kernel_rfl) (by kernel_rfl) (fun _ _ _ h=>h) (.inl ⟨by rfl,fun w hS=>?_⟩) ?_
   rotate_left
   ·go_simp
    change Calls _ _ _ _ _
    refine Calls.mono (q0 _ (z0.ext hS)) ?_
    rintro e w' ⟨rfl,hx⟩
    refine ⟨?_,hS.trans hx⟩
    with_reducible rfl
   simp only [Act.put,zA,zB,zC]
   refine qas (i:=25) (some 49) (v:=?_) (by rfl) rfl rfl (by kernel_rfl) (by kernel_rfl) (by kernel_rfl) (fun _ _ _ h=>h) (.inl ⟨by rfl,fun w hS=>?_⟩) ?_
   rotate_left
   ·(try go_simp)
    refine ⟨?_,hS⟩
    with_reducible rfl
   simp only [Act.put,zA,zB,zC]
   refine qas (i:=26) (some 50) (v:=?_) (by rfl) rfl rfl (by kernel_rfl) (by kernel_rfl) (by kernel_rfl) (fun _ _ _ h=>h) (.inl ⟨by rfl,fun w hS=>?_⟩) ?_
   rotate_left
   ·(try go_simp)
    refine ⟨?_,hS⟩
    with_reducible rfl
   simp only [Act.put,zA,zB,zC]
   refine qas (i:=27) (some 51) (v:=?_) (by rfl) rfl rfl (by kernel_rfl) (by kernel_rfl) (by kernel_rfl) (fun _ _ _ h=>h) (.inl ⟨by rfl,fun w hS=>?_⟩) ?_
   rotate_left
   ·(try go_simp)
    refine ⟨?_,hS⟩
    with_reducible rfl
   simp only [Act.put,zA,zB,zC]
   refine qas (i:=28) (some 52) (v:=?_) (by rfl) rfl rfl (by kernel_rfl) (by kernel_rfl) (by kernel_rfl) (fun _ _ _ h=>h) (.inl ⟨by rfl,fun w hS=>?_⟩) ?_
   rotate_left
   ·(try go_simp)
    refine ⟨?_,hS⟩
    with_reducible rfl
   simp only [Act.put,zA,zB,zC]
   refine qas (i:=29) (some 53) (v:=?_) (by rfl) rfl rfl (by kernel_rfl) (by kernel_rfl) (by kernel_rfl) (fun _ _ _ h=>h) (.inl ⟨by rfl,fun w hS=>?_⟩) ?_
   rotate_left
   ·(try go_simp)
    refine ⟨?_,hS⟩
    with_reducible rfl
   simp only [Act.put,zA,zB,zC]
   refine qas (i:=30) (some 54) (v:=?_) (by rfl) rfl rfl (by kernel_rfl) (by kernel_rfl) (by kernel_rfl) (fun _ _ _ h=>h) (.inl ⟨by rfl,fun w hS=>?_⟩) ?_
   rotate_left
   ·have e1:=Ext.cell hS x16
    go_simp
    refine ⟨?_,hS⟩
    with_reducible rfl
   simp only [Act.put,zA,zB,zC]
   refine qas (i:=31) (some 55) (v:=?_) (by rfl) rfl rfl (by kernel_rfl) (by kernel_rfl) (by kernel_rfl) (fun _ _ _ h=>h) (.inl ⟨by rfl,fun w hS=>?_⟩) ?_
   rotate_left
   ·(try go_simp)
    refine ⟨?_,hS⟩
    with_reducible rfl
   simp only [Act.put,zA,zB,zC]
   refine qas (i:=32) (some 56) (v:=?_) (by rfl) rfl rfl (by kernel_rfl) (by kernel_rfl) (by kernel_rfl) (fun _ _ _ h=>h) (.inl ⟨by rfl,fun w hS=>?_⟩) ?_
   rotate_left
   ·(try go_simp)
    refine ⟨?_,hS⟩
    with_reducible rfl
   simp only [Act.put,zA,zB,zC]
   refine qas (i:=33) (some 57) (v:=?_) (by rfl) rfl rfl (by kernel_rfl) (by kernel_rfl) (by kernel_rfl) (fun _ _ _ h=>h) (.inl ⟨by rfl,fun w hS=>?_⟩) ?_
   rotate_left
   ·have e1:=Ext.cell hS c5
    go_simp
    refine ⟨?_,hS⟩
    with_reducible rfl
   simp only [Act.put,zA,zB,zC]
   refine qas (i:=34) (some 58) (v:=?_) (by rfl) rfl rfl (by kernel_rfl) (by kernel_rfl) (by kernel_rfl) (fun _ _ _ h=>h) (.inl ⟨by rfl,fun w hS=>?_⟩) ?_
   rotate_left
   ·(try go_simp)
    refine ⟨?_,hS⟩
    with_reducible rfl
   simp only [Act.put,zA,zB,zC]
   refine qlh rfl rfl rfl (by kernel_rfl) (by kernel_rfl) (by kernel_rfl) (by kernel_rfl) fun w hS=>?_
   simp only [List.getElem_toArray,List.getElem_cons_succ,List.getElem_cons_zero]
   have hszS:=hS.size
   have hBS : ∀ o,B ≤ (w.alloc o).heap.size:=fun o=>Nat.le_trans (by omega) (qaa w o).size
   rw [← hX]
   clear hX
   go_wp2_with (at_builtin;refine qbn rfl (.tmp 24) (.tmp 59) 71 73 8 rfl qmq B _ i _ rfl (qbc (qbc ho hS) (qaa _ _)) _ 1 1 [wv64 X] rfl rfl (qbk _ _ _) (qp9 _ _) (by unfold maxLen;omega) (by omega) (hBS _) ?_;intro A2 c2 w2 ho2 hc2 hm2 hr2 hE2 hg2)
   have hb2 : Below B w1 w2:=Below.trans (Below.trans hbl (Below.mono (hS.trans (qaa w (.cells #[wv64 X] 73))) hsz)) (Below.grown (Below.refl _ _) hg2 (hBS _) (fun k hk=>((qbc (qbc ho hS) (qaa w (.cells #[wv64 X] 73))).lt k hk).1))
   have hR2:=Row.grown ((hR.ext hS).ext (qaa w (.cells #[wv64 X] 73))) (qbc (qbc ho hS) (qaa _ _)) hg2 (by decide)
   refine ⟨⟨i + 1,xs ++ [X],by omega,by omega,by go_num,?_,?_,hR2,hb2⟩,by simp [intOf];omega⟩
   ·rw [List.map_append];exact ho2
   ·refine Lib.hid ?_
    have h1:=hsc.out
    rw [show K - i = (K - (i + 1)) + 1 from by omega] at h1
    rw [← h1,qgk,hnx.out]
  ·obtain rfl : K = i:=by omega
   have hxs : xs = qgk D (K - 16) ws:=by
    have h1:=hsc.out
    rw [Nat.sub_self] at h1
    exact h1
   have HB2 : Hid (qfa D ws s = qlz D s (qgw D D.ks xs s)):=Lib.hid (by rw [hxs];exact HBL.out)
   have hH1:=(hH.below hu1 lH).below hbl lH
   have hub : Under B [bh] w wr:=(Under.of_below hu1).trans (Under.of_below hbl)
   have z0:=(r0.below hu1 l0).below hbl l0
   have z1:=(r1.below hu1 l1).below hbl l1
   have z2:=(r2.below hu1 l2).below hbl l2
   have z3:=(r3.below hu1 l3).below hbl l3
   have z4:=(r4.below hu1 l4).below hbl l4
   have hrdH : Rd wr (some ⟨bh,0,none⟩) (s.l.map wv64):=by
    have:=(Rd.ofRow32 hH1 0).take 8
    simpa [St64.l] using this
   clear hsc hxs
   go_wp2_with (at_builtin;refine qeo rfl (.tmp 61) (.tmp 62) 71 73 8 rfl qmq rfl (some ⟨bh,0,none⟩) 8 hc (s.l.map wv64) rfl rfl hrdH (qkm _) (by unfold maxLen;omega) (by omega) ?_;intro A2 c2 w2 ho2 hc2 hm2 hr2 hx2;obtain ⟨bv,vsp,ev,hbv,hvm,hRv,-⟩:=qjq ho2 (by decide);injection ev with eA _ ec;subst eA ec)
   have hsw : B ≤ wr.heap.size:=hsz
   have hRk2:=hR.ext hx2
   have hRx2:=hRx.ext hx2
   have y2:=z2.ext hx2
   have y3:=z3.ext hx2
   have y4:=z4.ext hx2
   have hH2:=hH1.ext hx2
   have nk : bk ≠ bv:=by have:=hR.lt;omega
   have nx : g ≠ bv:=by have:=hRx.lt;omega
   have n2v : s2 ≠ bv:=by omega
   have n3v : s3 ≠ bv:=by omega
   have n4v : s4 ≠ bv:=by omega
   have nh : bh ≠ bv:=by omega
   have nkh : bk ≠ bh:=by omega
   have hBv : B ≤ bv:=by omega
   have hub2 : Under B [bh] w w2:=hub.trans (Under.of_below (Below.mono hx2 hsw))
   have hs2 : B ≤ w2.heap.size:=Nat.le_trans hsw hx2.size
   clear c0 c1 c2 c3 c4 c5 c6 c7 hR hRx z0 z1 z2 z3 z4 hH1 hub hx2 ho2 hr2 hrdH ho hbl
   go_loopw [9] (fun t9 wr=>∃ (i : Nat) (v : St64),i ≤ K∧t9 = .int .i64 i∧Row wr bv 73 (v.l.map wv64 ++ vsp)∧Hid (qgw D (D.ks.drop i) (xs.drop i) v = qgw D D.ks xs s)∧Keep [bv] w2 wr) (fun t9 _=>K - (intOf t9).toNat)
   case atStart=>exact ⟨0,s,by omega,rfl,hRv,Lib.hid rfl,Keep.refl _ _⟩
   case round =>
    clear hRv
    obtain ⟨i,v,hi,rfl,hRv,hrn,hKv⟩:=hrel
    have hRz:=hRk2.keep hKv (by simpa using nk)
    by_cases hik : i < K
    ·have hik' : (i : Int) < K:=by omega
     have bi : 0 ≤ (i : Int)∧(i : Int) < K:=by omega
     have u2:=y2.keep hKv (by simpa using n2v)
     have u3:=y3.keep hKv (by simpa using n3v)
     have u4:=y4.keep hKv (by simpa using n4v)
     have hXz:=hRx2.keep hKv (by simpa using nx)
     have hkl:=HKL.out
     have hxl':=HXL.out
     have ck : wr.cell? ⟨s4,i,none⟩ = some (.int .u64 (n64 (D.ks[i]'(by omega)))):=by rw [u4.cell (by rw [List.length_map];omega),List.getElem_map];rfl
     have cx : wr.cell? ⟨g,i,none⟩ = some (.int .u64 (n64 (xs[i]'(by omega)))):=by rw [Row.at64 hXz (by omega),qbo xs i (by omega)]
     have hstep : qgw D (D.ks.drop (i + 1)) (xs.drop (i + 1)) (rndG D v (D.ks[i]'(by omega)) (xs[i]'(by omega))) = qgw D D.ks xs s:=by
      have h1:=hrn.out
      rw [List.drop_eq_getElem_cons (show i < D.ks.length by omega),List.drop_eq_getElem_cons (show i < xs.length by omega)] at h1
      exact h1
     have hstepx:=Lib.hid hstep
     clear hstep
     generalize D.ks[i]'(by omega) = kx at *
     generalize xs[i]'(by omega) = xx at *
     clear hkl hxl'
     have vc0 : wr.cell? ⟨bv,0,none⟩ = some (.int .u64 (n64 v.a)):=(Row.at64 hRv (j:=0) (by show 0 < 8;decide)).trans rfl
     have vc1 : wr.cell? ⟨bv,1,none⟩ = some (.int .u64 (n64 v.b)):=(Row.at64 hRv (j:=1) (by show 1 < 8;decide)).trans rfl
     have vc2 : wr.cell? ⟨bv,2,none⟩ = some (.int .u64 (n64 v.c)):=(Row.at64 hRv (j:=2) (by show 2 < 8;decide)).trans rfl
     have vc3 : wr.cell? ⟨bv,3,none⟩ = some (.int .u64 (n64 v.d)):=(Row.at64 hRv (j:=3) (by show 3 < 8;decide)).trans rfl
     have vc4 : wr.cell? ⟨bv,4,none⟩ = some (.int .u64 (n64 v.e)):=(Row.at64 hRv (j:=4) (by show 4 < 8;decide)).trans rfl
     have vc5 : wr.cell? ⟨bv,5,none⟩ = some (.int .u64 (n64 v.f)):=(Row.at64 hRv (j:=5) (by show 5 < 8;decide)).trans rfl
     have vc6 : wr.cell? ⟨bv,6,none⟩ = some (.int .u64 (n64 v.g)):=(Row.at64 hRv (j:=6) (by show 6 < 8;decide)).trans rfl
     have vc7 : wr.cell? ⟨bv,7,none⟩ = some (.int .u64 (n64 v.h)):=(Row.at64 hRv (j:=7) (by show 7 < 8;decide)).trans rfl
     have c0 : wr.cell? ⟨bk,0,none⟩ = some (.int .i64 (D.b : Int)):=(hRz.cell (i:=0) (by simp)).trans rfl
     have c1 : wr.cell? ⟨bk,1,none⟩ = some (.slice (some ⟨s0,0,none⟩) 3 3):=(hRz.cell (i:=1) (by simp)).trans rfl
     have c2 : wr.cell? ⟨bk,2,none⟩ = some (.slice (some ⟨s1,0,none⟩) 3 3):=(hRz.cell (i:=2) (by simp)).trans rfl
     have c3 : wr.cell? ⟨bk,3,none⟩ = some (.slice (some ⟨s2,0,none⟩) 3 3):=(hRz.cell (i:=3) (by simp)).trans rfl
     have c4 : wr.cell? ⟨bk,4,none⟩ = some (.slice (some ⟨s3,0,none⟩) 3 3):=(hRz.cell (i:=4) (by simp)).trans rfl
     have c5 : wr.cell? ⟨bk,5,none⟩ = some (.int .u64 (n64 D.M)):=(hRz.cell (i:=5) (by simp)).trans rfl
     have c6 : wr.cell? ⟨bk,6,none⟩ = some (.slice (some ⟨s4,0,none⟩) K K):=(hRz.cell (i:=6) (by simp)).trans rfl
     have c7 : wr.cell? ⟨bk,7,none⟩ = some (.slice (some ⟨s5,0,none⟩) 8 8):=(hRz.cell (i:=7) (by simp)).trans rfl
     have qt:=fun w h=>qq5 D.b D.t0 D.t1 D.t2 s0 s1 s2 s3 s4 s5 K s3 D.M v.e w ok.b ok.t0 ok.t0b ok.t1 ok.t1b ok.t2 ok.t2b h
     have qr:=fun w h=>qq5 D.b D.r0 D.r1 D.r2 s0 s1 s2 s3 s4 s5 K s2 D.M v.a w ok.b ok.r0 ok.r0b ok.r1 ok.r1b ok.r2 ok.r2b h
     obtain ⟨g1,hg1⟩ : ∃ y,y = qfx D.b D.M v.e D.t0 D.t1 D.t2:=⟨_,rfl⟩
     obtain ⟨g0,hg0⟩ : ∃ y,y = qfx D.b D.M v.a D.r0 D.r1 D.r2:=⟨_,rfl⟩
     rw [← hg1] at qt
     rw [← hg0] at qr
     replace hg1:=Lib.hid hg1
     replace hg0:=Lib.hid hg0
     clear hrn
     go_upto_region 11 with fail
     refine qbd (fun w'=>Ext wr w') (by kernel_rfl) (qae _) ?_
     refine gS (i:=0) (some 71) (v:=?_) rfl rfl (by kernel_rfl) (fun _ _ _ h=>h) (by rfl) (fun w hS=>?_) ?_
     rotate_left
     ·(try go_simp)
      refine ⟨?_,hS⟩
      with_reducible rfl
     simp only [Act.put,zA,zB,zC]
     refine gS (i:=1) (some 72) (v:=?_) rfl rfl (by kernel_rfl) (fun _ _ _ h=>h) (by rfl) (fun w hS=>?_) ?_
     rotate_left
     ·(try go_simp)
      refine ⟨?_,hS⟩
      with_reducible rfl
     simp only [Act.put,zA,zB,zC]
     refine gS (i:=2) (some 73) (v:=?_) rfl rfl (by kernel_rfl) (fun _ _ _ h=>h) (by rfl) (fun w hS=>?_) ?_
     rotate_left
     ·have e1:=Ext.cell hS vc4
      go_simp
      refine ⟨?_,hS⟩
      with_reducible rfl
     simp only [Act.put,zA,zB,zC]
     refine gS (i:=3) (some 74) (v:=?_) rfl rfl (by kernel_rfl) (fun _ _ _ h=>h) (by rfl) (fun w hS=>?_) ?_
     rotate_left
     ·(try go_simp)
      refine ⟨?_,hS⟩
      with_reducible rfl
     simp only [Act.put,zA,zB,zC]
     refine gS (i:=4) (some 75) (v:=?_) rfl rfl (by kernel_rfl) (fun _ _ _ h=>h) (by rfl) (fun w hS=>?_) ?_
     rotate_left
     ·(try go_simp)
      refine ⟨?_,hS⟩
      with_reducible rfl
     simp only [Act.put,zA,zB,zC]
     refine gS (i:=5) (some 76) (v:=?_) rfl rfl (by kernel_rfl) (fun _ _ _ h=>h) (by rfl) (fun w hS=>?_) ?_
     rotate_left
     ·have e1:=Ext.cell hS vc5
      go_simp
      refine ⟨?_,hS⟩
      with_reducible rfl
     simp only [Act.put,zA,zB,zC]
     refine gS (i:=6) (some 77) (v:=?_) rfl rfl (by kernel_rfl) (fun _ _ _ h=>h) (by rfl) (fun w hS=>?_) ?_
     rotate_left
     ·(try go_simp)
      refine ⟨?_,hS⟩
      with_reducible rfl
     simp only [Act.put,zA,zB,zC]
     refine gS (i:=7) (some 78) (v:=?_) rfl rfl (by kernel_rfl) (fun _ _ _ h=>h) (by rfl) (fun w hS=>?_) ?_
     rotate_left
     ·(try go_simp)
      refine ⟨?_,hS⟩
      with_reducible rfl
     simp only [Act.put,zA,zB,zC]
     refine gS (i:=8) (some 79) (v:=?_) rfl rfl (by kernel_rfl) (fun _ _ _ h=>h) (by rfl) (fun w hS=>?_) ?_
     rotate_left
     ·have e1:=Ext.cell hS c5
      go_simp
      refine ⟨?_,hS⟩
      with_reducible rfl
     simp only [Act.put,zA,zB,zC]
     refine gS (i:=9) (some 80) (v:=?_) rfl rfl (by kernel_rfl) (fun _ _ _ h=>h) (by rfl) (fun w hS=>?_) ?_
     rotate_left
     ·(try go_simp)
      refine ⟨?_,hS⟩
      with_reducible rfl
     simp only [Act.put,zA,zB,zC]
     refine gS (i:=10) (some 81) (v:=?_) rfl rfl (by kernel_rfl) (fun _ _ _ h=>h) (by rfl) (fun w hS=>?_) ?_
     rotate_left
     ·(try go_simp)
      refine ⟨?_,hS⟩
      with_reducible rfl
     simp only [Act.put,zA,zB,zC]
     refine gS (i:=11) (some 82) (v:=?_) rfl rfl (by kernel_rfl) (fun _ _ _ h=>h) (by rfl) (fun w hS=>?_) ?_
     rotate_left
     ·have e1:=Ext.cell hS vc4
      go_simp
      refine ⟨?_,hS⟩
      with_reducible rfl
     simp only [Act.put,zA,zB,zC]
     refine gS (i:=12) (some 83) (v:=?_) rfl rfl (by kernel_rfl) (fun _ _ _ h=>h) (by rfl) (fun w hS=>?_) ?_
     rotate_left
     ·(try go_simp)
      refine ⟨?_,hS⟩
      with_reducible rfl
     simp only [Act.put,zA,zB,zC]
     refine gS (i:=13) (some 84) (v:=?_) rfl rfl (by kernel_rfl) (fun _ _ _ h=>h) (by rfl) (fun w hS=>?_) ?_
     rotate_left
     ·(try go_simp)
      refine ⟨?_,hS⟩
      with_reducible rfl
     simp only [Act.put,zA,zB,zC]
     refine gS (i:=14) (some 85) (v:=?_) rfl rfl (by kernel_rfl) (fun _ _ _ h=>h) (by rfl) (fun w hS=>?_) ?_
     rotate_left
     ·(try go_simp)
      refine ⟨?_,hS⟩
      with_reducible rfl
     simp only [Act.put,zA,zB,zC]
     refine gS (i:=15) (some 86) (v:=?_) rfl rfl (by kernel_rfl) (fun _ _ _ h=>h) (by rfl) (fun w hS=>?_) ?_
     rotate_left
     ·have e1:=Ext.cell hS vc6
      go_simp
      refine ⟨?_,hS⟩
      with_reducible rfl
     simp only [Act.put,zA,zB,zC]
     refine gS (i:=16) (some 87) (v:=?_) rfl rfl (by kernel_rfl) (fun _ _ _ h=>h) (by rfl) (fun w hS=>?_) ?_
     rotate_left
     ·(try go_simp)
      refine ⟨?_,hS⟩
      with_reducible rfl
     simp only [Act.put,zA,zB,zC]
     refine gS (i:=17) (some 88) (v:=?_) rfl rfl (by kernel_rfl) (fun _ _ _ h=>h) (by rfl) (fun w hS=>?_) ?_
     rotate_left
     ·(try go_simp)
      refine ⟨?_,hS⟩
      with_reducible rfl
     simp only [Act.put,zA,zB,zC]
     refine gS (i:=18) (some 10) (v:=?_) rfl rfl (by kernel_rfl) (fun _ _ _ h=>h) (by rfl) (fun w hS=>?_) ?_
     rotate_left
     ·(try go_simp)
      refine ⟨?_,hS⟩
      with_reducible rfl
     simp only [Act.put,zA,zB,zC]
     refine qbv (by kernel_rfl) fun w3 hS3=>?_
     replace vc0:=Ext.cell hS3 vc0
     replace vc1:=Ext.cell hS3 vc1
     replace vc2:=Ext.cell hS3 vc2
     replace vc3:=Ext.cell hS3 vc3
     replace vc4:=Ext.cell hS3 vc4
     replace vc5:=Ext.cell hS3 vc5
     replace vc6:=Ext.cell hS3 vc6
     replace vc7:=Ext.cell hS3 vc7
     replace c0:=Ext.cell hS3 c0
     replace c1:=Ext.cell hS3 c1
     replace c2:=Ext.cell hS3 c2
     replace c3:=Ext.cell hS3 c3
     replace c4:=Ext.cell hS3 c4
     replace c5:=Ext.cell hS3 c5
     replace c6:=Ext.cell hS3 c6
     replace c7:=Ext.cell hS3 c7
     replace ck:=Ext.cell hS3 ck
     replace cx:=Ext.cell hS3 cx
     replace hRv:=hRv.ext hS3
     replace hKv:=hKv.ext hS3
     replace hRz:=hRz.ext hS3
     replace u2:=u2.ext hS3
     replace u3:=u3.ext hS3
     clear hS3
     go_upto_region 12 with fail
     refine qbd (fun w'=>Ext w3 w') (by kernel_rfl) (qae _) ?_
     refine gS (i:=0) (some 89) (v:=?_) rfl rfl (by kernel_rfl) (fun _ _ _ h=>h) (by rfl) (fun w hS=>?_) ?_
     rotate_left
     ·(try go_simp)
      refine ⟨?_,hS⟩
      with_reducible rfl
     simp only [Act.put,zA,zB,zC]
     refine gS (i:=1) (some 90) (v:=?_) rfl rfl (by kernel_rfl) (fun _ _ _ h=>h) (by rfl) (fun w hS=>?_) ?_
     rotate_left
     ·(try go_simp)
      refine ⟨?_,hS⟩
      with_reducible rfl
     simp only [Act.put,zA,zB,zC]
     refine gS (i:=2) (some 91) (v:=?_) rfl rfl (by kernel_rfl) (fun _ _ _ h=>h) (by rfl) (fun w hS=>?_) ?_
     rotate_left
     ·have e1:=Ext.cell hS vc0
      go_simp
      refine ⟨?_,hS⟩
      with_reducible rfl
     simp only [Act.put,zA,zB,zC]
     refine gS (i:=3) (some 92) (v:=?_) rfl rfl (by kernel_rfl) (fun _ _ _ h=>h) (by rfl) (fun w hS=>?_) ?_
     rotate_left
     ·(try go_simp)
      refine ⟨?_,hS⟩
      with_reducible rfl
     simp only [Act.put,zA,zB,zC]
     refine gS (i:=4) (some 93) (v:=?_) rfl rfl (by kernel_rfl) (fun _ _ _ h=>h) (by rfl) (fun w hS=>?_) ?_
     rotate_left
     ·(try go_simp)
      refine ⟨?_,hS⟩
      with_reducible rfl
     simp only [Act.put,zA,zB,zC]
     refine gS (i:=5) (some 94) (v:=?_) rfl rfl (by kernel_rfl) (fun _ _ _ h=>h) (by rfl) (fun w hS=>?_) ?_
     rotate_left
     ·have e1:=Ext.cell hS vc1
      go_simp
      refine ⟨?_,hS⟩
      with_reducible rfl
     simp only [Act.put,zA,zB,zC]
     refine gS (i:=6) (some 95) (v:=?_) rfl rfl (by kernel_rfl) (fun _ _ _ h=>h) (by rfl) (fun w hS=>?_) ?_
     rotate_left
     ·(try go_simp)
      refine ⟨?_,hS⟩
      with_reducible rfl
     simp only [Act.put,zA,zB,zC]
     refine gS (i:=7) (some 96) (v:=?_) rfl rfl (by kernel_rfl) (fun _ _ _ h=>h) (by rfl) (fun w hS=>?_) ?_
     rotate_left
     ·(try go_simp)
      refine ⟨?_,hS⟩
      with_reducible rfl
     simp only [Act.put,zA,zB,zC]
     refine gS (i:=8) (some 97) (v:=?_) rfl rfl (by kernel_rfl) (fun _ _ _ h=>h) (by rfl) (fun w hS=>?_) ?_
     rotate_left
     ·(try go_simp)
      refine ⟨?_,hS⟩
      with_reducible rfl
     simp only [Act.put,zA,zB,zC]
     refine gS (i:=9) (some 98) (v:=?_) rfl rfl (by kernel_rfl) (fun _ _ _ h=>h) (by rfl) (fun w hS=>?_) ?_
     rotate_left
     ·have e1:=Ext.cell hS vc0
      go_simp
      refine ⟨?_,hS⟩
      with_reducible rfl
     simp only [Act.put,zA,zB,zC]
     refine gS (i:=10) (some 99) (v:=?_) rfl rfl (by kernel_rfl) (fun _ _ _ h=>h) (by rfl) (fun w hS=>?_) ?_
     rotate_left
     ·(try go_simp)
      refine ⟨?_,hS⟩
      with_reducible rfl
     simp only [Act.put,zA,zB,zC]
     refine gS (i:=11) (some 100) (v:=?_) rfl rfl (by kernel_rfl) (fun _ _ _ h=>h) (by rfl) (fun w hS=>?_) ?_
     rotate_left
     ·(try go_simp)
      refine ⟨?_,hS⟩
      with_reducible rfl
     simp only [Act.put,zA,zB,zC]
     refine gS (i:=12) (some 101) (v:=?_) rfl rfl (by kernel_rfl) (fun _ _ _ h=>h) (by rfl) (fun w hS=>?_) ?_
     rotate_left
     ·have e1:=Ext.cell hS vc2
      go_simp
      refine ⟨?_,hS⟩
      with_reducible rfl
     simp only [Act.put,zA,zB,zC]
     refine gS (i:=13) (some 102) (v:=?_) rfl rfl (by kernel_rfl) (fun _ _ _ h=>h) (by rfl) (fun w hS=>?_) ?_
     rotate_left
     ·(try go_simp)
      refine ⟨?_,hS⟩
      with_reducible rfl
     simp only [Act.put,zA,zB,zC]
     refine gS (i:=14) (some 103) (v:=?_) rfl rfl (by kernel_rfl) (fun _ _ _ h=>h) (by rfl) (fun w hS=>?_) ?_
     rotate_left
     ·(try go_simp)
      refine ⟨?_,hS⟩
      with_reducible rfl
     simp only [Act.put,zA,zB,zC]
     refine gS (i:=15) (some 104) (v:=?_) rfl rfl (by kernel_rfl) (fun _ _ _ h=>h) (by rfl) (fun w hS=>?_) ?_
     rotate_left
     ·(try go_simp)
      refine ⟨?_,hS⟩
      with_reducible rfl
     simp only [Act.put,zA,zB,zC]
     refine gS (i:=16) (some 105) (v:=?_) rfl rfl (by kernel_rfl) (fun _ _ _ h=>h) (by rfl) (fun w hS=>?_) ?_
     rotate_left
     ·(try go_simp)
      refine ⟨?_,hS⟩
      with_reducible rfl
     simp only [Act.put,zA,zB,zC]
     refine gS (i:=17) (some 106) (v:=?_) rfl rfl (by kernel_rfl) (fun _ _ _ h=>h) (by rfl) (fun w hS=>?_) ?_
     rotate_left
     ·have e1:=Ext.cell hS vc1
      go_simp
      refine ⟨?_,hS⟩
      with_reducible rfl
     simp only [Act.put,zA,zB,zC]
     refine gS (i:=18) (some 107) (v:=?_) rfl rfl (by kernel_rfl) (fun _ _ _ h=>h) (by rfl) (fun w hS=>?_) ?_
     rotate_left
     ·(try go_simp)
      refine ⟨?_,hS⟩
      with_reducible rfl
     simp only [Act.put,zA,zB,zC]
     refine gS (i:=19) (some 108) (v:=?_) rfl rfl (by kernel_rfl) (fun _ _ _ h=>h) (by rfl) (fun w hS=>?_) ?_
     rotate_left
     ·(try go_simp)
      refine ⟨?_,hS⟩
      with_reducible rfl
     simp only [Act.put,zA,zB,zC]
     refine gS (i:=20) (some 109) (v:=?_) rfl rfl (by kernel_rfl) (fun _ _ _ h=>h) (by rfl) (fun w hS=>?_) ?_
     rotate_left
     ·have e1:=Ext.cell hS vc2
      go_simp
      refine ⟨?_,hS⟩
      with_reducible rfl
     simp only [Act.put,zA,zB,zC]
     refine gS (i:=21) (some 110) (v:=?_) rfl rfl (by kernel_rfl) (fun _ _ _ h=>h) (by rfl) (fun w hS=>?_) ?_
     rotate_left
     ·(try go_simp)
      refine ⟨?_,hS⟩
      with_reducible rfl
     simp only [Act.put,zA,zB,zC]
     refine gS (i:=22) (some 111) (v:=?_) rfl rfl (by kernel_rfl) (fun _ _ _ h=>h) (by rfl) (fun w hS=>?_) ?_
     rotate_left
     ·(try go_simp)
      refine ⟨?_,hS⟩
      with_reducible rfl
     simp only [Act.put,zA,zB,zC]
     refine gS (i:=23) (some 11) (v:=?_) rfl rfl (by kernel_rfl) (fun _ _ _ h=>h) (by rfl) (fun w hS=>?_) ?_
     rotate_left
     ·(try go_simp)
      refine ⟨?_,hS⟩
      with_reducible rfl
     simp only [Act.put,zA,zB,zC]
     refine qbv (by kernel_rfl) fun w4 hS4=>?_
     replace vc0:=Ext.cell hS4 vc0
     replace vc1:=Ext.cell hS4 vc1
     replace vc2:=Ext.cell hS4 vc2
     replace vc3:=Ext.cell hS4 vc3
     replace vc4:=Ext.cell hS4 vc4
     replace vc5:=Ext.cell hS4 vc5
     replace vc6:=Ext.cell hS4 vc6
     replace vc7:=Ext.cell hS4 vc7
     replace c0:=Ext.cell hS4 c0
     replace c1:=Ext.cell hS4 c1
     replace c2:=Ext.cell hS4 c2
     replace c3:=Ext.cell hS4 c3
     replace c4:=Ext.cell hS4 c4
     replace c5:=Ext.cell hS4 c5
     replace c6:=Ext.cell hS4 c6
     replace c7:=Ext.cell hS4 c7
     replace ck:=Ext.cell hS4 ck
     replace cx:=Ext.cell hS4 cx
     replace hRv:=hRv.ext hS4
     replace hKv:=hKv.ext hS4
     replace hRz:=hRz.ext hS4
     replace u2:=u2.ext hS4
     replace u3:=u3.ext hS4
     clear hS4
     go_upto_region 13 with fail
     refine qbd (fun w'=>Ext w4 w') (by kernel_rfl) (qae _) ?_
     refine gS (i:=0) (some 112) (v:=?_) rfl rfl (by kernel_rfl) (fun _ _ _ h=>h) (by rfl) (fun w hS=>?_) ?_
     rotate_left
     ·(try go_simp)
      refine ⟨?_,hS⟩
      with_reducible rfl
     simp only [Act.put,zA,zB,zC]
     refine gS (i:=1) (some 113) (v:=?_) rfl rfl (by kernel_rfl) (fun _ _ _ h=>h) (by rfl) (fun w hS=>?_) ?_
     rotate_left
     ·(try go_simp)
      refine ⟨?_,hS⟩
      with_reducible rfl
     simp only [Act.put,zA,zB,zC]
     refine gS (i:=2) (some 114) (v:=?_) rfl rfl (by kernel_rfl) (fun _ _ _ h=>h) (by rfl) (fun w hS=>?_) ?_
     rotate_left
     ·have e1:=Ext.cell hS vc7
      go_simp
      refine ⟨?_,hS⟩
      with_reducible rfl
     simp only [Act.put,zA,zB,zC]
     refine gS (i:=3) (some 115) (v:=?_) rfl rfl (by kernel_rfl) (fun _ _ _ h=>h) (by rfl) (fun w hS=>?_) ?_
     rotate_left
     ·have e1:=Ext.cell hS c0;have e2:=Ext.cell hS c1;have e3:=Ext.cell hS c2;have e4:=Ext.cell hS c3;have e5:=Ext.cell hS c4;have e6:=Ext.cell hS c5;have e7:=Ext.cell hS c6;have e8:=Ext.cell hS c7
      go_simp
      refine ⟨?_,hS⟩
      with_reducible rfl
     simp only [Act.put,zA,zB,zC]
     refine gS (i:=4) (some 116) (v:=?_) rfl rfl (by kernel_rfl) (fun _ _ _ h=>h) (by rfl) (fun w hS=>?_) ?_
     rotate_left
     ·(try go_simp)
      refine ⟨?_,hS⟩
      with_reducible rfl
     simp only [Act.put,zA,zB,zC]
     refine gS (i:=5) (some 117) (v:=?_) rfl rfl (by kernel_rfl) (fun _ _ _ h=>h) (by rfl) (fun w hS=>?_) ?_
     rotate_left
     ·(try go_simp)
      refine ⟨?_,hS⟩
      with_reducible rfl
     simp only [Act.put,zA,zB,zC]
     refine gS (i:=6) (some 118) (v:=?_) rfl rfl (by kernel_rfl) (fun _ _ _ h=>h) (by rfl) (fun w hS=>?_) ?_
     rotate_left
     ·have e1:=Ext.cell hS vc4
      go_simp
      refine ⟨?_,hS⟩
      with_reducible rfl
     simp only [Act.put,zA,zB,zC]
     refine gS (i:=7) (some 119) (v:=?_) rfl rfl (by kernel_rfl) (fun _ _ _ h=>h) (by rfl) (fun w hS=>?_) ?_
     rotate_left
     ·(try go_simp)
      refine ⟨?_,hS⟩
      with_reducible rfl
     simp only [Act.put,zA,zB,zC]
     refine gS (i:=8) (some 120) (v:=?_) rfl rfl (by kernel_rfl) (fun _ _ _ h=>h) (by rfl) (fun w hS=>?_) ?_
     rotate_left
     ·have e1:=Ext.cell hS c4
      go_simp
      refine ⟨?_,hS⟩
      with_reducible rfl
     simp only [Act.put,zA,zB,zC]
     refine gS (i:=9) (some 121) (v:=?_) rfl rfl (by kernel_rfl) (fun _ _ _ h=>h) (by rfl) (fun w hS=>?_) ?_
     rotate_left
     ·go_simp
      change Calls _ _ _ _ _
      refine Calls.mono (qt _ (u3.ext hS)) ?_
      rintro e w' ⟨rfl,hx⟩
      refine ⟨?_,hS.trans hx⟩
      with_reducible rfl
     simp only [Act.put,zA,zB,zC]
     refine gS (i:=10) (some 122) (v:=?_) rfl rfl (by kernel_rfl) (fun _ _ _ h=>h) (by rfl) (fun w hS=>?_) ?_
     rotate_left
     ·(try go_simp)
      refine ⟨?_,hS⟩
      with_reducible rfl
     simp only [Act.put,zA,zB,zC]
     refine gS (i:=11) (some 123) (v:=?_) rfl rfl (by kernel_rfl) (fun _ _ _ h=>h) (by rfl) (fun w hS=>?_) ?_
     rotate_left
     ·(try go_simp)
      refine ⟨?_,hS⟩
      with_reducible rfl
     simp only [Act.put,zA,zB,zC]
     refine gS (i:=12) (some 124) (v:=?_) rfl rfl (by kernel_rfl) (fun _ _ _ h=>h) (by rfl) (fun w hS=>?_) ?_
     rotate_left
     ·(try go_simp)
      refine ⟨?_,hS⟩
      with_reducible rfl
     simp only [Act.put,zA,zB,zC]
     refine gS (i:=13) (some 125) (v:=?_) rfl rfl (by kernel_rfl) (fun _ _ _ h=>h) (by rfl) (fun w hS=>?_) ?_
     rotate_left
     ·(try go_simp)
      refine ⟨?_,hS⟩
      with_reducible rfl
     simp only [Act.put,zA,zB,zC]
     refine gS (i:=14) (some 126) (v:=?_) rfl rfl (by kernel_rfl) (fun _ _ _ h=>h) (by rfl) (fun w hS=>?_) ?_
     rotate_left
     ·have e1:=Ext.cell hS c6
      go_simp
      refine ⟨?_,hS⟩
      with_reducible rfl
     simp only [Act.put,zA,zB,zC]
     refine gS (i:=15) (some 127) (v:=?_) rfl rfl (by kernel_rfl) (fun _ _ _ h=>h) (by rfl) (fun w hS=>?_) ?_
     rotate_left
     ·(try go_simp)
      refine ⟨?_,hS⟩
      with_reducible rfl
     simp only [Act.put,zA,zB,zC]
     refine gS (i:=16) (some 128) (v:=?_) rfl rfl (by kernel_rfl) (fun _ _ _ h=>h) (by rfl) (fun w hS=>?_) ?_
     rotate_left
     ·(try go_simp)
      refine ⟨?_,hS⟩
      with_reducible rfl
     simp only [Act.put,zA,zB,zC]
     refine gS (i:=17) (some 129) (v:=?_) rfl rfl (by kernel_rfl) (fun _ _ _ h=>h) (by rfl) (fun w hS=>?_) ?_
     rotate_left
     ·have e1:=Ext.cell hS ck
      go_simp
      refine ⟨?_,hS⟩
      with_reducible rfl
     simp only [Act.put,zA,zB,zC]
     refine gS (i:=18) (some 130) (v:=?_) rfl rfl (by kernel_rfl) (fun _ _ _ h=>h) (by rfl) (fun w hS=>?_) ?_
     rotate_left
     ·(try go_simp)
      refine ⟨?_,hS⟩
      with_reducible rfl
     simp only [Act.put,zA,zB,zC]
     refine gS (i:=19) (some 131) (v:=?_) rfl rfl (by kernel_rfl) (fun _ _ _ h=>h) (by rfl) (fun w hS=>?_) ?_
     rotate_left
     ·(try go_simp)
      refine ⟨?_,hS⟩
      with_reducible rfl
     simp only [Act.put,zA,zB,zC]
     refine gS (i:=20) (some 132) (v:=?_) rfl rfl (by kernel_rfl) (fun _ _ _ h=>h) (by rfl) (fun w hS=>?_) ?_
     rotate_left
     ·(try go_simp)
      refine ⟨?_,hS⟩
      with_reducible rfl
     simp only [Act.put,zA,zB,zC]
     refine gS (i:=21) (some 133) (v:=?_) rfl rfl (by kernel_rfl) (fun _ _ _ h=>h) (by rfl) (fun w hS=>?_) ?_
     rotate_left
     ·(try go_simp)
      refine ⟨?_,hS⟩
      with_reducible rfl
     simp only [Act.put,zA,zB,zC]
     refine gS (i:=22) (some 134) (v:=?_) rfl rfl (by kernel_rfl) (fun _ _ _ h=>h) (by rfl) (fun w hS=>?_) ?_
     rotate_left
     ·have e1:=Ext.cell hS cx
      go_simp
      refine ⟨?_,hS⟩
      with_reducible rfl
     simp only [Act.put,zA,zB,zC]
     refine gS (i:=23) (some 135) (v:=?_) rfl rfl (by kernel_rfl) (fun _ _ _ h=>h) (by rfl) (fun w hS=>?_) ?_
     rotate_left
     ·(try go_simp)
      refine ⟨?_,hS⟩
      with_reducible rfl
     simp only [Act.put,zA,zB,zC]
     refine gS (i:=24) (some 12) (v:=?_) rfl rfl (by kernel_rfl) (fun _ _ _ h=>h) (by rfl) (fun w hS=>?_) ?_
     rotate_left
     ·(try go_simp)
      refine ⟨?_,hS⟩
      with_reducible rfl
     simp only [Act.put,zA,zB,zC]
     refine qbv (by kernel_rfl) fun w5 hS5=>?_
     replace vc0:=Ext.cell hS5 vc0
     replace vc1:=Ext.cell hS5 vc1
     replace vc2:=Ext.cell hS5 vc2
     replace vc3:=Ext.cell hS5 vc3
     replace vc4:=Ext.cell hS5 vc4
     replace vc5:=Ext.cell hS5 vc5
     replace vc6:=Ext.cell hS5 vc6
     replace vc7:=Ext.cell hS5 vc7
     replace c0:=Ext.cell hS5 c0
     replace c1:=Ext.cell hS5 c1
     replace c2:=Ext.cell hS5 c2
     replace c3:=Ext.cell hS5 c3
     replace c4:=Ext.cell hS5 c4
     replace c5:=Ext.cell hS5 c5
     replace c6:=Ext.cell hS5 c6
     replace c7:=Ext.cell hS5 c7
     replace hRv:=hRv.ext hS5
     replace hKv:=hKv.ext hS5
     replace hRz:=hRz.ext hS5
     replace u2:=u2.ext hS5
     clear hS5
     go_upto_region 14 with fail
     refine qbd (fun w'=>Ext w5 w') (by kernel_rfl) (qae _) ?_
     refine gS (i:=0) (some 136) (v:=?_) rfl rfl (by kernel_rfl) (fun _ _ _ h=>h) (by rfl) (fun w hS=>?_) ?_
     rotate_left
     ·have e1:=Ext.cell hS c0;have e2:=Ext.cell hS c1;have e3:=Ext.cell hS c2;have e4:=Ext.cell hS c3;have e5:=Ext.cell hS c4;have e6:=Ext.cell hS c5;have e7:=Ext.cell hS c6;have e8:=Ext.cell hS c7
      go_simp
      refine ⟨?_,hS⟩
      with_reducible rfl
     simp only [Act.put,zA,zB,zC]
     refine gS (i:=1) (some 137) (v:=?_) rfl rfl (by kernel_rfl) (fun _ _ _ h=>h) (by rfl) (fun w hS=>?_) ?_
     rotate_left
     ·(try go_simp)
      refine ⟨?_,hS⟩
      with_reducible rfl
     simp only [Act.put,zA,zB,zC]
     refine gS (i:=2) (some 138) (v:=?_) rfl rfl (by kernel_rfl) (fun _ _ _ h=>h) (by rfl) (fun w hS=>?_) ?_
     rotate_left
     ·(try go_simp)
      refine ⟨?_,hS⟩
      with_reducible rfl
     simp only [Act.put,zA,zB,zC]
     refine gS (i:=3) (some 139) (v:=?_) rfl rfl (by kernel_rfl) (fun _ _ _ h=>h) (by rfl) (fun w hS=>?_) ?_
     rotate_left
     ·have e1:=Ext.cell hS vc0
      go_simp
      refine ⟨?_,hS⟩
      with_reducible rfl
     simp only [Act.put,zA,zB,zC]
     refine gS (i:=4) (some 140) (v:=?_) rfl rfl (by kernel_rfl) (fun _ _ _ h=>h) (by rfl) (fun w hS=>?_) ?_
     rotate_left
     ·(try go_simp)
      refine ⟨?_,hS⟩
      with_reducible rfl
     simp only [Act.put,zA,zB,zC]
     refine gS (i:=5) (some 141) (v:=?_) rfl rfl (by kernel_rfl) (fun _ _ _ h=>h) (by rfl) (fun w hS=>?_) ?_
     rotate_left
     ·have e1:=Ext.cell hS c3
      go_simp
      refine ⟨?_,hS⟩
      with_reducible rfl
     simp only [Act.put,zA,zB,zC]
     refine gS (i:=6) (some 142) (v:=?_) rfl rfl (by kernel_rfl) (fun _ _ _ h=>h) (by rfl) (fun w hS=>?_) ?_
     rotate_left
     ·go_simp
      change Calls _ _ _ _ _
      refine Calls.mono (qr _ (u2.ext hS)) ?_
      rintro e w' ⟨rfl,hx⟩
      refine ⟨?_,hS.trans hx⟩
      with_reducible rfl
     simp only [Act.put,zA,zB,zC]
     refine gS (i:=7) (some 143) (v:=?_) rfl rfl (by kernel_rfl) (fun _ _ _ h=>h) (by rfl) (fun w hS=>?_) ?_
     rotate_left
     ·(try go_simp)
      refine ⟨?_,hS⟩
      with_reducible rfl
     simp only [Act.put,zA,zB,zC]
     refine gS (i:=8) (some 144) (v:=?_) rfl rfl (by kernel_rfl) (fun _ _ _ h=>h) (by rfl) (fun w hS=>?_) ?_
     rotate_left
     ·(try go_simp)
      refine ⟨?_,hS⟩
      with_reducible rfl
     simp only [Act.put,zA,zB,zC]
     refine gS (i:=9) (some 13) (v:=?_) rfl rfl (by kernel_rfl) (fun _ _ _ h=>h) (by rfl) (fun w hS=>?_) ?_
     rotate_left
     ·(try go_simp)
      refine ⟨?_,hS⟩
      with_reducible rfl
     simp only [Act.put,zA,zB,zC]
     refine qbv (by kernel_rfl) fun w6 hS6=>?_
     replace hRv:=hRv.ext hS6
     replace hKv:=hKv.ext hS6
     replace hRz:=hRz.ext hS6
     clear hS6
     clear ck cx u2 u3 u4 qt qr hXz vc0 vc1 vc2 vc3 vc4 vc5 vc6 vc7 c0 c1 c2 c3 c4 c5 c6 c7
     go_wp2
     go_loopw [14] (fun t14 wr=>∃ j : Nat,j ≤ 7∧t14 = .int .i64 j∧Row wr bv 73 ((shl v j).map wv64 ++ vsp)∧Keep [bv] w6 wr) (fun t14 _=>(intOf t14).toNat)
     case atStart=>exact ⟨7,by decide,rfl,hRv,Keep.refl _ _⟩
     case round =>
      clear hRv
      obtain ⟨j,hj,rfl,hRv,hKj⟩:=hrel
      by_cases hj0 : 0 < j
      ·have hj0' : (0 : Int) < (j : Int):=by omega
       obtain ⟨i2,z2⟩ : ∃ i2 : Nat,i2 = j - 1:=⟨_,rfl⟩
       have e2 : (j : Int) - 1 = (i2 : Int):=by omega
       have v2 : IntKind.i64.wrap (i2 : Int) = (i2 : Int):=IntWalk.i64_in _ (by omega)
       have b2 : 0 ≤ (i2 : Int)∧(i2 : Int) < 8:=by omega
       have bj : 0 ≤ (j : Int)∧(j : Int) < 8:=by omega
       have hsh : (shl v j).getD i2 0 = v.l.getD i2 0∧(shl v j).set j (v.l.getD i2 0) = shl v i2:=by
        have:=shl_at v i2 (by omega)
        rw [show i2 + 1 = j from by omega] at this
        exact this
       have x2 : wr.cell? ⟨bv,i2,none⟩ = some (.int .u64 (n64 (v.l.getD i2 0))):=by
        rw [← hsh.1]
        exact Row.at64 hRv (by rw [qls];omega)
       have xj : wr.cell? ⟨bv,j,none⟩ = some (.int .u64 (n64 ((shl v j).getD j 0))):=Row.at64 hRv (by rw [qls];omega)
       have fj:=hRv.fro j
       have hset : Hid ((shl v j).set j (v.l.getD i2 0) = shl v i2):=Lib.hid hsh.2
       clear hsh z2
       generalize v.l.getD i2 0 = p at *
       go_wp2
       refine ⟨⟨i2,by omega,by go_num,?_,?_⟩,by simp [intOf];omega⟩
       ·rw [← hset.out,List.map_set]
        have:=hRv.set j (wv64 p)
        rwa [List.set_append_left _ _ (by rw [List.length_map,qls];omega)] at this
       ·exact hKj.same (Keep.setCell _ ⟨bv,j,none⟩ _)
      ·obtain rfl : j = 0:=by omega
       have hRz2:=hRz.keep hKj (by simpa using nk)
       have vc4 : wr.cell? ⟨bv,4,none⟩ = some (.int .u64 (n64 v.d)):=(Row.at64 hRv (j:=4) (by show 4 < 8;decide)).trans rfl
       have vc0 : wr.cell? ⟨bv,0,none⟩ = some (.int .u64 (n64 v.a)):=(Row.at64 hRv (j:=0) (by show 0 < 8;decide)).trans rfl
       have c5 : wr.cell? ⟨bk,5,none⟩ = some (.int .u64 (n64 D.M)):=(hRz2.cell (i:=5) (by simp)).trans rfl
       have f4:=hRv.fro 4
       have f0:=hRv.fro 0
       go_wp2
       go_region
       go_wp2
       refine ⟨⟨i + 1,rndG D v kx xx,by omega,by go_num,?_,hstepx,?_⟩,by simp [intOf];omega⟩
       ·have e1 : oneG D v kx xx = v.h + g1 + (v.e &&& v.f ^^^ (D.M ^^^ v.e) &&& v.g) + kx + xx:=by rw [hg1.out];rfl
        have e2 : dosG D v = g0 + (v.a &&& v.b ^^^ v.a &&& v.c ^^^ v.b &&& v.c):=by rw [hg0.out];rfl
        have e3 : (rndG D v kx xx).l = [(oneG D v kx xx + dosG D v) &&& D.M,v.a,v.b,v.c,(v.d + oneG D v kx xx) &&& D.M,v.e,v.f,v.g]:=rfl
        rw [e3,e1,e2]
        exact Row.set (Row.set (hRv.ext (qae _)) 4 _) 0 _
       ·exact ((hKv.same hKj).ext (qae _)).same ((Keep.setCell _ ⟨bv,4,none⟩ _).same (Keep.setCell _ ⟨bv,0,none⟩ _))
    ·obtain rfl : K = i:=by omega
     have hkl:=HKL.out
     have hv : v = qgw D D.ks xs s:=by
      have h1:=hrn.out
      rw [← hkl,List.drop_length] at h1
      rw [← h1]
      cases xs.drop D.ks.length <;> rfl
     have hblk : qfa D ws s = qlz D s v:=by rw [HB2.out,← hv]
     clear hkl
     replace hblk:=Lib.hid hblk
     have hH3:=hH2.keep hKv (by simpa using nh)
     have hub3 : Under B [bh] w wr:=hub2.trans (Under.of_keep hKv hs2 fun x hx=>.inr (by simp at hx;omega))
     have hs3 : B ≤ wr.heap.size:=Nat.le_trans hs2 hKv.size
     clear hrn hv
     have c6 : wr.cell? ⟨bk,6,none⟩ = some (.slice (some ⟨s4,0,none⟩) K K):=(hRz.cell (i:=6) (by simp)).trans rfl
     obtain ⟨w5,hw5⟩ : ∃ w5,w5 = wr:=⟨_,rfl⟩
     subst hw5
     go_wp2
     go_loopw [15] (fun t15 wr=>∃ (i : Nat) (hcu : List UInt64),i ≤ 8∧t15 = .int .i64 i∧hcu.length = 8∧Row wr bh 73 (hcu.map wv64 ++ hsp)∧Hid (hcu = addG D s.l v.l i)∧Keep [bh] w5 wr) (fun t15 _=>8 - (intOf t15).toNat)
     case atStart=>exact ⟨0,s.l,by decide,rfl,rfl,hH3,Lib.hid rfl,Keep.refl _ _⟩
     case round =>
      clear hH3 c6
      obtain ⟨i,hcu,hi,rfl,hcl8,hH3,hcu8,hKh⟩:=hrel
      by_cases hi8 : i < 8
      ·have hi8' : (i : Int) < 8:=by omega
       have bi : 0 ≤ (i : Int)∧(i : Int) < 8:=by omega
       have hRv5:=hRv.keep hKh (by simpa using nh.symm)
       have hRk5:=hRz.keep hKh (by simpa using nkh)
       have hvl : v.l.length = 8:=rfl
       have ch : wr.cell? ⟨bh,i,none⟩ = some (.int .u64 (n64 (hcu[i]'(by omega)))):=by rw [Row.at64 hH3 (by omega),qbo hcu i (by omega)]
       have cv : wr.cell? ⟨bv,i,none⟩ = some (.int .u64 (n64 (v.l[i]'(by omega)))):=by rw [Row.at64 hRv5 (by omega),qbo v.l i (by omega)]
       have c5 : wr.cell? ⟨bk,5,none⟩ = some (.int .u64 (n64 D.M)):=(hRk5.cell (i:=5) (by simp)).trans rfl
       have fh:=hH3.fro i
       have hnew : addG D s.l v.l (i + 1) = hcu.set i ((hcu[i]'(by omega) + v.l[i]'(by omega)) &&& D.M):=by
        have h0:=qr2 D s.l v.l i i (Nat.le_refl _)
        rw [← hcu8.out,qbo hcu i (by omega)] at h0
        simp only [addG]
        rw [← hcu8.out,← h0,qbo v.l i (by omega)]
       replace hnew:=Lib.hid hnew
       generalize hcu[i]'(by omega) = p at *
       generalize v.l[i]'(by omega) = q at *
       clear hcu8 hvl
       go_wp2
       go_region
       go_wp2
       refine ⟨⟨i + 1,hcu.set i ((p + q) &&& D.M),by omega,by go_num,by rw [List.length_set];exact hcl8,?_,Lib.hid hnew.out.symm,?_⟩,by simp [intOf];omega⟩
       ·rw [List.map_set]
        have:=(hH3.ext (qae _)).set i (wv64 ((p + q) &&& D.M))
        rwa [List.set_append_left _ _ (by rw [List.length_map];omega)] at this
       ·exact (hKh.ext (qae _)).same (Keep.setCell _ ⟨bh,i,none⟩ _)
      ·obtain rfl : i = 8:=by omega
       have hres : Row wr bh 73 ((qfa D ws s).l.map wv64 ++ hsp):=by
        rw [hblk.out,← addG_8,← hcu8.out]
        exact hH3
       clear hcu8 hblk
       go_wp2
       go_end0
       exact ⟨rfl,hres,hub3.trans (Under.of_keep hKh hs3 fun x hx=>.inl hx)⟩
end Go.Proofs.YtgeihelkkhjjaaaGreatDoor
end
