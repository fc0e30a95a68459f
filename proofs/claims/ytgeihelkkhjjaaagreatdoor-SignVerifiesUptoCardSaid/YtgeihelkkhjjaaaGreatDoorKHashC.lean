/-
  hash.block walked, words of 64 bits.
-/
import Derived.Test.YtgeihelkkhjjaaaGreatDoorKHashA
import Derived.Deep.CutRange
set_option linter.unusedSimpArgs false
set_option linter.unusedVariables false
set_option maxRecDepth 20000
set_option maxHeartbeats 16000000
namespace Go.Proofs.YtgeihelkkhjjaaaGreatDoor
open Go.RowKit Go.Cv Go.Cv.Hash Go.Cv.Dig
def TC64 : List Value:=[.int .i64 1,.int .i64 8,.int .i64 7,.int .i64 19,.int .i64 61,.int .i64 6,.int .i64 28,.int .i64 34,.int .i64 39,.int .i64 14,.int .i64 18,.int .i64 41]
theorem block_64 (bh bw : Nat) (s : St64) (ws : List UInt64) (ka : Addr) (kc : Nat) (ks : List UInt64) (w : World) (hne : bh ≠ bw) (hH : Row w bh 95 (s.l.map wv64)) (hW : Row w bw 73 (ws.map wv64)) (hwl : ws.length = 80) (hkl : ks.length = 80) (hk : Rd w (some ka) (ks.map wv64)) (hkh : ka.block ≠ bh) (hkw : ka.block ≠ bw) :
  Calls Tryz.prog 97 #[.pointer (some ⟨bh,0,none⟩),.slice (some ⟨bw,0,none⟩) 80 80,.slice (some ka) 80 kc,.agg #[.int .i64 1,.int .i64 8,.int .i64 7,.int .i64 19,.int .i64 61,.int .i64 6,.int .i64 28,.int .i64 34,.int .i64 39,.int .i64 14,.int .i64 18,.int .i64 41]] w fun e w' =>
   e = .returned (.tuple #[])∧Row w' bh 95 ((qc4 ks ws s).l.map wv64)∧(∃ ws' : List UInt64,ws'.length = 80∧Row w' bw 73 (ws'.map wv64))∧Keep [bh,bw] w w':=by
 go_enter Tryz.func97,Tryz.ntmps97
 go_wp2
 obtain ⟨w1,hw1⟩ : ∃ w1,w1 = w.alloc (.cells #[.int .i64 1,.int .i64 8,.int .i64 7,.int .i64 19,.int .i64 61,.int .i64 6,.int .i64 28,.int .i64 34,.int .i64 39,.int .i64 14,.int .i64 18,.int .i64 41] 94):=⟨_,rfl⟩
 obtain ⟨bt,hb7⟩ : ∃ bt,bt = w.heap.size:=⟨_,rfl⟩
 rw [← hw1,← hb7]
 have hx1 : Ext w w1:=by rw [hw1];exact qaa _ _
 have hR7 : Row w1 bt 94 TC64:=by rw [hw1,hb7];exact Row.alloc w TC64 _
 have hlH:=hH.lt
 have hlW:=hW.lt
 have hlK : ka.block < w.heap.size:=by
  obtain ⟨ad,e,hc⟩:=hk.at_ (k:=0) (by rw [List.length_map,hkl];decide)
  injection e with e
  subst e
  have:=World.block_lt_of_cell? w _ hc
  rwa [add_block] at this
 have n7h : bt ≠ bh:=by omega
 have n7w : bt ≠ bw:=by omega
 have n7k : ka.block ≠ bt:=by omega
 replace hH:=hH.ext hx1
 replace hW:=hW.ext hx1
 replace hk:=hk.ext hx1
 have hbt : w.heap.size ≤ bt:=by omega
 clear hw1 hb7
 go_loopw [8] (fun t8 wr=>∃ (i : Nat) (cs : List UInt64),16 ≤ i∧i ≤ 80∧t8 = .int .i64 i∧cs.length = 80∧Row wr bw 73 (cs.map wv64)∧Hid (qfz (80 - i) (cs.take i) = qfz (80 - 16) (ws.take 16))∧Keep [bw] w1 wr) (fun t8 _=>80 - (intOf t8).toNat)
 case atStart=>exact ⟨16,ws,by decide,by decide,rfl,hwl,hW,Lib.hid rfl,Keep.refl _ _⟩
 case round =>
  obtain ⟨i,cs,hi16,hi,rfl,hcl,hW,hsc,hKe⟩:=hrel
  by_cases hik : i < 80
  ·have hik' : (i : Int) < 80:=by omega
   have hR7w:=hR7.keep hKe (by simpa using n7w)
   obtain ⟨i2,z2⟩ : ∃ j : Nat,j = i - 2:=⟨_,rfl⟩
   have e2 : (i : Int) - 2 = (i2 : Int):=by omega
   have v2 : IntKind.i64.wrap (i2 : Int) = (i2 : Int):=IntWalk.i64_in _ (by omega)
   have g2 : 0 ≤ (i2 : Int)∧(i2 : Int) < 80:=by omega
   have c2 : wr.cell? ⟨bw,i2,none⟩ = some (.int .u64 (n64 (cs.getD i2 0))):=by rw [hW.cell (by rw [List.length_map];omega),List.getElem_map,qbo cs i2 (by omega)];rfl
   obtain ⟨i7,z7⟩ : ∃ j : Nat,j = i - 7:=⟨_,rfl⟩
   have e7 : (i : Int) - 7 = (i7 : Int):=by omega
   have v7 : IntKind.i64.wrap (i7 : Int) = (i7 : Int):=IntWalk.i64_in _ (by omega)
   have g7 : 0 ≤ (i7 : Int)∧(i7 : Int) < 80:=by omega
   have c7 : wr.cell? ⟨bw,i7,none⟩ = some (.int .u64 (n64 (cs.getD i7 0))):=by rw [hW.cell (by rw [List.length_map];omega),List.getElem_map,qbo cs i7 (by omega)];rfl
   obtain ⟨i15,z15⟩ : ∃ j : Nat,j = i - 15:=⟨_,rfl⟩
   have e15 : (i : Int) - 15 = (i15 : Int):=by omega
   have v15 : IntKind.i64.wrap (i15 : Int) = (i15 : Int):=IntWalk.i64_in _ (by omega)
   have g15 : 0 ≤ (i15 : Int)∧(i15 : Int) < 80:=by omega
   have c15 : wr.cell? ⟨bw,i15,none⟩ = some (.int .u64 (n64 (cs.getD i15 0))):=by rw [hW.cell (by rw [List.length_map];omega),List.getElem_map,qbo cs i15 (by omega)];rfl
   obtain ⟨i16,z16⟩ : ∃ j : Nat,j = i - 16:=⟨_,rfl⟩
   have e16 : (i : Int) - 16 = (i16 : Int):=by omega
   have v16 : IntKind.i64.wrap (i16 : Int) = (i16 : Int):=IntWalk.i64_in _ (by omega)
   have g16 : 0 ≤ (i16 : Int)∧(i16 : Int) < 80:=by omega
   have c16 : wr.cell? ⟨bw,i16,none⟩ = some (.int .u64 (n64 (cs.getD i16 0))):=by rw [hW.cell (by rw [List.length_map];omega),List.getElem_map,qbo cs i16 (by omega)];rfl
   have d0 : wr.cell? ⟨bt,0,none⟩ = some (.int .i64 1):=(hR7w.cell (i:=0) (by decide)).trans rfl
   have d1 : wr.cell? ⟨bt,1,none⟩ = some (.int .i64 8):=(hR7w.cell (i:=1) (by decide)).trans rfl
   have d2 : wr.cell? ⟨bt,2,none⟩ = some (.int .i64 7):=(hR7w.cell (i:=2) (by decide)).trans rfl
   have d3 : wr.cell? ⟨bt,3,none⟩ = some (.int .i64 19):=(hR7w.cell (i:=3) (by decide)).trans rfl
   have d4 : wr.cell? ⟨bt,4,none⟩ = some (.int .i64 61):=(hR7w.cell (i:=4) (by decide)).trans rfl
   have d5 : wr.cell? ⟨bt,5,none⟩ = some (.int .i64 6):=(hR7w.cell (i:=5) (by decide)).trans rfl
   have bi : 0 ≤ (i : Int)∧(i : Int) < 80:=by omega
   have ci : wr.cell? ⟨bw,i,none⟩ = some (.int .u64 (n64 (cs.getD i 0))):=by rw [hW.cell (by rw [List.length_map];omega),List.getElem_map,qbo cs i (by omega)];rfl
   have fi : wr.frozen? ⟨bw,i,none⟩ = false:=hW.fro i
   have hnx : Hid (qof (cs.take i) = qdg (cs.getD i2 0) 19 61 6 + cs.getD i7 0 + qdg (cs.getD i15 0) 1 8 7 + cs.getD i16 0):=Lib.hid (by rw [nxt_at64 cs i hi16 (by omega),z2,z7,z15,z16])
   clear z2 z7 z15 z16
   generalize cs.getD i2 0 = x2 at *
   generalize cs.getD i7 0 = x7 at *
   generalize cs.getD i15 0 = x15 at *
   generalize cs.getD i16 0 = x16 at *
   generalize cs.getD i 0 = xi at *
   have q1:=fun w=>qmt x2 19 61 6 w (by decide) (by decide) (by decide) (by decide) (by decide)
   have q0:=fun w=>qmt x15 1 8 7 w (by decide) (by decide) (by decide) (by decide) (by decide)
   generalize qdg x2 19 61 6 = y1 at *
   generalize qdg x15 1 8 7 = y0 at *
   go_upto_region 4 with fail
   refine qin (fun w'=>Ext wr w') 32 (List.range 33).reverse (by kernel_rfl) (qae _) rfl (by kernel_rfl) ?_
   refine qat (i:=0) (some 21) (v:=?_) (by rfl) rfl rfl (by kernel_rfl) (by kernel_rfl) (by kernel_rfl) (fun _ _ _ h=>h) (.inl ⟨by rfl,fun w hS=>?_⟩) ?_
   rotate_left
   ·(try go_simp)
    refine ⟨?_,hS⟩
    with_reducible rfl
   simp only [Act.put,zA,zB,zC]
   refine qat (i:=1) (some 22) (v:=?_) (by rfl) rfl rfl (by kernel_rfl) (by kernel_rfl) (by kernel_rfl) (fun _ _ _ h=>h) (.inl ⟨by rfl,fun w hS=>?_⟩) ?_
   rotate_left
   ·(try go_simp)
    refine ⟨?_,hS⟩
    with_reducible rfl
   simp only [Act.put,zA,zB,zC]
   refine qat (i:=2) (some 23) (v:=?_) (by rfl) rfl rfl (by kernel_rfl) (by kernel_rfl) (by kernel_rfl) (fun _ _ _ h=>h) (.inl ⟨by rfl,fun w hS=>?_⟩) ?_
   rotate_left
   ·(try go_simp)
    refine ⟨?_,hS⟩
    with_reducible rfl
   simp only [Act.put,zA,zB,zC]
   refine qat (i:=3) (some 24) (v:=?_) (by rfl) rfl rfl (by kernel_rfl) (by kernel_rfl) (by kernel_rfl) (fun _ _ _ h=>h) (.inl ⟨by rfl,fun w hS=>?_⟩) ?_
   rotate_left
   ·(try go_simp)
    refine ⟨?_,hS⟩
    with_reducible rfl
   simp only [Act.put,zA,zB,zC]
   refine qat (i:=4) (some 25) (v:=?_) (by rfl) rfl rfl (by kernel_rfl) (by kernel_rfl) (by kernel_rfl) (fun _ _ _ h=>h) (.inl ⟨by rfl,fun w hS=>?_⟩) ?_
   rotate_left
   ·(try go_simp)
    refine ⟨?_,hS⟩
    with_reducible rfl
   simp only [Act.put,zA,zB,zC]
   refine qat (i:=5) (some 26) (v:=?_) (by rfl) rfl rfl (by kernel_rfl) (by kernel_rfl) (by kernel_rfl) (fun _ _ _ h=>h) (.inl ⟨by rfl,fun w hS=>?_⟩) ?_
   rotate_left
   ·(try go_simp)
    refine ⟨?_,hS⟩
    with_reducible rfl
   simp only [Act.put,zA,zB,zC]
   refine qat (i:=6) (some 27) (v:=?_) (by rfl) rfl rfl (by kernel_rfl) (by kernel_rfl) (by kernel_rfl) (fun _ _ _ h=>h) (.inl ⟨by rfl,fun w hS=>?_⟩) ?_
   rotate_left
   ·have e1:=Ext.cell hS c2
    go_simp
    refine ⟨?_,hS⟩
    with_reducible rfl
   simp only [Act.put,zA,zB,zC]
   refine qat (i:=7) (some 28) (v:=?_) (by rfl) rfl rfl (by kernel_rfl) (by kernel_rfl) (by kernel_rfl) (fun _ _ _ h=>h) (.inl ⟨by rfl,fun w hS=>?_⟩) ?_
   rotate_left
   ·(try go_simp)
    refine ⟨?_,hS⟩
    with_reducible rfl
   simp only [Act.put,zA,zB,zC]
   refine qat (i:=8) (some 29) (v:=?_) (by rfl) rfl rfl (by kernel_rfl) (by kernel_rfl) (by kernel_rfl) (fun _ _ _ h=>h) (.inl ⟨by rfl,fun w hS=>?_⟩) ?_
   rotate_left
   ·have e1:=Ext.cell hS d3;have e2:=Ext.cell hS d4;have e3:=Ext.cell hS d5
    go_simp
    refine ⟨?_,hS⟩
    with_reducible rfl
   simp only [Act.put,zA,zB,zC]
   refine qat (i:=9) (some 30) (v:=?_) (by rfl) rfl rfl (by kernel_rfl) (by kernel_rfl) (by kernel_rfl) (fun _ _ _ h=>h) (.inl ⟨by rfl,fun w hS=>?_⟩) ?_
   rotate_left
   ·go_simp
    change Calls _ _ _ _ _
    refine Calls.mono (q1 _) ?_
    rintro e w' ⟨rfl,hx⟩
    refine ⟨?_,hS.trans hx⟩
    with_reducible rfl
   simp only [Act.put,zA,zB,zC]
   refine qat (i:=10) (some 31) (v:=?_) (by rfl) rfl rfl (by kernel_rfl) (by kernel_rfl) (by kernel_rfl) (fun _ _ _ h=>h) (.inl ⟨by rfl,fun w hS=>?_⟩) ?_
   rotate_left
   ·(try go_simp)
    refine ⟨?_,hS⟩
    with_reducible rfl
   simp only [Act.put,zA,zB,zC]
   refine qat (i:=11) (some 32) (v:=?_) (by rfl) rfl rfl (by kernel_rfl) (by kernel_rfl) (by kernel_rfl) (fun _ _ _ h=>h) (.inl ⟨by rfl,fun w hS=>?_⟩) ?_
   rotate_left
   ·(try go_simp)
    refine ⟨?_,hS⟩
    with_reducible rfl
   simp only [Act.put,zA,zB,zC]
   refine qat (i:=12) (some 33) (v:=?_) (by rfl) rfl rfl (by kernel_rfl) (by kernel_rfl) (by kernel_rfl) (fun _ _ _ h=>h) (.inl ⟨by rfl,fun w hS=>?_⟩) ?_
   rotate_left
   ·(try go_simp)
    refine ⟨?_,hS⟩
    with_reducible rfl
   simp only [Act.put,zA,zB,zC]
   refine qat (i:=13) (some 34) (v:=?_) (by rfl) rfl rfl (by kernel_rfl) (by kernel_rfl) (by kernel_rfl) (fun _ _ _ h=>h) (.inl ⟨by rfl,fun w hS=>?_⟩) ?_
   rotate_left
   ·(try go_simp)
    refine ⟨?_,hS⟩
    with_reducible rfl
   simp only [Act.put,zA,zB,zC]
   refine qat (i:=14) (some 35) (v:=?_) (by rfl) rfl rfl (by kernel_rfl) (by kernel_rfl) (by kernel_rfl) (fun _ _ _ h=>h) (.inl ⟨by rfl,fun w hS=>?_⟩) ?_
   rotate_left
   ·have e1:=Ext.cell hS c7
    go_simp
    refine ⟨?_,hS⟩
    with_reducible rfl
   simp only [Act.put,zA,zB,zC]
   refine qat (i:=15) (some 36) (v:=?_) (by rfl) rfl rfl (by kernel_rfl) (by kernel_rfl) (by kernel_rfl) (fun _ _ _ h=>h) (.inl ⟨by rfl,fun w hS=>?_⟩) ?_
   rotate_left
   ·(try go_simp)
    refine ⟨?_,hS⟩
    with_reducible rfl
   simp only [Act.put,zA,zB,zC]
   refine qat (i:=16) (some 37) (v:=?_) (by rfl) rfl rfl (by kernel_rfl) (by kernel_rfl) (by kernel_rfl) (fun _ _ _ h=>h) (.inl ⟨by rfl,fun w hS=>?_⟩) ?_
   rotate_left
   ·(try go_simp)
    refine ⟨?_,hS⟩
    with_reducible rfl
   simp only [Act.put,zA,zB,zC]
   refine qat (i:=17) (some 38) (v:=?_) (by rfl) rfl rfl (by kernel_rfl) (by kernel_rfl) (by kernel_rfl) (fun _ _ _ h=>h) (.inl ⟨by rfl,fun w hS=>?_⟩) ?_
   rotate_left
   ·(try go_simp)
    refine ⟨?_,hS⟩
    with_reducible rfl
   simp only [Act.put,zA,zB,zC]
   refine qat (i:=18) (some 39) (v:=?_) (by rfl) rfl rfl (by kernel_rfl) (by kernel_rfl) (by kernel_rfl) (fun _ _ _ h=>h) (.inl ⟨by rfl,fun w hS=>?_⟩) ?_
   rotate_left
   ·(try go_simp)
    refine ⟨?_,hS⟩
    with_reducible rfl
   simp only [Act.put,zA,zB,zC]
   refine qat (i:=19) (some 40) (v:=?_) (by rfl) rfl rfl (by kernel_rfl) (by kernel_rfl) (by kernel_rfl) (fun _ _ _ h=>h) (.inl ⟨by rfl,fun w hS=>?_⟩) ?_
   rotate_left
   ·(try go_simp)
    refine ⟨?_,hS⟩
    with_reducible rfl
   simp only [Act.put,zA,zB,zC]
   refine qat (i:=20) (some 41) (v:=?_) (by rfl) rfl rfl (by kernel_rfl) (by kernel_rfl) (by kernel_rfl) (fun _ _ _ h=>h) (.inl ⟨by rfl,fun w hS=>?_⟩) ?_
   rotate_left
   ·have e1:=Ext.cell hS c15
    go_simp
    refine ⟨?_,hS⟩
    with_reducible rfl
   simp only [Act.put,zA,zB,zC]
   refine qat (i:=21) (some 42) (v:=?_) (by rfl) rfl rfl (by kernel_rfl) (by kernel_rfl) (by kernel_rfl) (fun _ _ _ h=>h) (.inl ⟨by rfl,fun w hS=>?_⟩) ?_
   rotate_left
   ·(try go_simp)
    refine ⟨?_,hS⟩
    with_reducible rfl
   simp only [Act.put,zA,zB,zC]
   refine qat (i:=22) (some 43) (v:=?_) (by rfl) rfl rfl (by kernel_rfl) (by kernel_rfl) (by kernel_rfl) (fun _ _ _ h=>h) (.inl ⟨by rfl,fun w hS=>?_⟩) ?_
   rotate_left
   ·have e1:=Ext.cell hS d0;have e2:=Ext.cell hS d1;have e3:=Ext.cell hS d2
    go_simp
    refine ⟨?_,hS⟩
    with_reducible rfl
   simp only [Act.put,zA,zB,zC]
   refine qat (i:=23) (some 44) (v:=?_) (by rfl) rfl rfl (by kernel_rfl) (by kernel_rfl) (by kernel_rfl) (fun _ _ _ h=>h) (.inl ⟨by rfl,fun w hS=>?_⟩) ?_
   rotate_left
   ·go_simp
    change Calls _ _ _ _ _
    refine Calls.mono (q0 _) ?_
    rintro e w' ⟨rfl,hx⟩
    refine ⟨?_,hS.trans hx⟩
    with_reducible rfl
   simp only [Act.put,zA,zB,zC]
   refine qat (i:=24) (some 45) (v:=?_) (by rfl) rfl rfl (by kernel_rfl) (by kernel_rfl) (by kernel_rfl) (fun _ _ _ h=>h) (.inl ⟨by rfl,fun w hS=>?_⟩) ?_
   rotate_left
   ·(try go_simp)
    refine ⟨?_,hS⟩
    with_reducible rfl
   simp only [Act.put,zA,zB,zC]
   refine qat (i:=25) (some 46) (v:=?_) (by rfl) rfl rfl (by kernel_rfl) (by kernel_rfl) (by kernel_rfl) (fun _ _ _ h=>h) (.inl ⟨by rfl,fun w hS=>?_⟩) ?_
   rotate_left
   ·(try go_simp)
    refine ⟨?_,hS⟩
    with_reducible rfl
   simp only [Act.put,zA,zB,zC]
   refine qat (i:=26) (some 47) (v:=?_) (by rfl) rfl rfl (by kernel_rfl) (by kernel_rfl) (by kernel_rfl) (fun _ _ _ h=>h) (.inl ⟨by rfl,fun w hS=>?_⟩) ?_
   rotate_left
   ·(try go_simp)
    refine ⟨?_,hS⟩
    with_reducible rfl
   simp only [Act.put,zA,zB,zC]
   refine qat (i:=27) (some 48) (v:=?_) (by rfl) rfl rfl (by kernel_rfl) (by kernel_rfl) (by kernel_rfl) (fun _ _ _ h=>h) (.inl ⟨by rfl,fun w hS=>?_⟩) ?_
   rotate_left
   ·(try go_simp)
    refine ⟨?_,hS⟩
    with_reducible rfl
   simp only [Act.put,zA,zB,zC]
   refine qat (i:=28) (some 49) (v:=?_) (by rfl) rfl rfl (by kernel_rfl) (by kernel_rfl) (by kernel_rfl) (fun _ _ _ h=>h) (.inl ⟨by rfl,fun w hS=>?_⟩) ?_
   rotate_left
   ·(try go_simp)
    refine ⟨?_,hS⟩
    with_reducible rfl
   simp only [Act.put,zA,zB,zC]
   refine qat (i:=29) (some 50) (v:=?_) (by rfl) rfl rfl (by kernel_rfl) (by kernel_rfl) (by kernel_rfl) (fun _ _ _ h=>h) (.inl ⟨by rfl,fun w hS=>?_⟩) ?_
   rotate_left
   ·have e1:=Ext.cell hS c16
    go_simp
    refine ⟨?_,hS⟩
    with_reducible rfl
   simp only [Act.put,zA,zB,zC]
   refine qat (i:=30) (some 51) (v:=?_) (by rfl) rfl rfl (by kernel_rfl) (by kernel_rfl) (by kernel_rfl) (fun _ _ _ h=>h) (.inl ⟨by rfl,fun w hS=>?_⟩) ?_
   rotate_left
   ·(try go_simp)
    refine ⟨?_,hS⟩
    with_reducible rfl
   simp only [Act.put,zA,zB,zC]
   refine qat (i:=31) (some 52) (v:=?_) (by rfl) rfl rfl (by kernel_rfl) (by kernel_rfl) (by kernel_rfl) (fun _ _ _ h=>h) (.inl ⟨by rfl,fun w hS=>?_⟩) ?_
   rotate_left
   ·(try go_simp)
    refine ⟨?_,hS⟩
    with_reducible rfl
   simp only [Act.put,zA,zB,zC]
   refine qli rfl (by kernel_rfl) (by kernel_rfl) (by rfl) fun w hS=>?_
   have e1:=Ext.cell hS ci
   have e2:=((hW.ext hS).fro i)
   go_simp
   go_wp2
   refine ⟨⟨i + 1,cs.set i (y1 + x7 + y0 + x16),by omega,by omega,by go_num,by rw [List.length_set];exact hcl,?_,?_,?_⟩,by simp [intOf];omega⟩
   ·rw [List.map_set];exact (hW.ext hS).set i _
   ·refine Lib.hid ?_
    have h1:=hsc.out
    rw [show 80 - i = (80 - (i + 1)) + 1 from by omega] at h1
    rw [qir cs i _ (by omega),← hnx.out]
    exact h1
   ·exact (hKe.ext hS).same (Keep.setCell _ ⟨bw,i,none⟩ _)
  ·obtain rfl : i = 80:=by omega
   have hxs : cs = qfz (80 - 16) (ws.take 16):=by
    have h1:=hsc.out
    rw [List.take_of_length_le (by omega)] at h1
    exact h1
   have hblk : qc4 ks ws s = qkj s (qex ks cs s):=by rw [hxs];rfl
   have hHw:=hH.keep hKe (by simpa using hne)
   have hkr:=hKe.rd hk (by simpa using hkw)
   have hR7w:=hR7.keep hKe (by simpa using n7w)
   have hc0 : wr.cell? ⟨bh,0,none⟩ = some (.int .u64 (n64 s.a)):=(hHw.cell (i:=0) (by simp [St64.l])).trans rfl
   have hc1 : wr.cell? ⟨bh,1,none⟩ = some (.int .u64 (n64 s.b)):=(hHw.cell (i:=1) (by simp [St64.l])).trans rfl
   have hc2 : wr.cell? ⟨bh,2,none⟩ = some (.int .u64 (n64 s.c)):=(hHw.cell (i:=2) (by simp [St64.l])).trans rfl
   have hc3 : wr.cell? ⟨bh,3,none⟩ = some (.int .u64 (n64 s.d)):=(hHw.cell (i:=3) (by simp [St64.l])).trans rfl
   have hc4 : wr.cell? ⟨bh,4,none⟩ = some (.int .u64 (n64 s.e)):=(hHw.cell (i:=4) (by simp [St64.l])).trans rfl
   have hc5 : wr.cell? ⟨bh,5,none⟩ = some (.int .u64 (n64 s.f)):=(hHw.cell (i:=5) (by simp [St64.l])).trans rfl
   have hc6 : wr.cell? ⟨bh,6,none⟩ = some (.int .u64 (n64 s.g)):=(hHw.cell (i:=6) (by simp [St64.l])).trans rfl
   have hc7 : wr.cell? ⟨bh,7,none⟩ = some (.int .u64 (n64 s.h)):=(hHw.cell (i:=7) (by simp [St64.l])).trans rfl
   clear hsc
   go_wp2
   obtain ⟨w2,hw2⟩ : ∃ w2,w2 = wr.alloc (.cells #[.int .u64 (n64 s.a),.int .u64 (n64 s.b),.int .u64 (n64 s.c),.int .u64 (n64 s.d),.int .u64 (n64 s.e),.int .u64 (n64 s.f),.int .u64 (n64 s.g),.int .u64 (n64 s.h)] 95):=⟨_,rfl⟩
   obtain ⟨bv,hbv⟩ : ∃ bv,bv = wr.heap.size:=⟨_,rfl⟩
   rw [← hw2,← hbv]
   have hx2 : Ext wr w2:=by rw [hw2];exact qaa _ _
   have hRv : Row w2 bv 95 (s.l.map wv64):=by rw [hw2,hbv];exact Row.alloc wr (s.l.map wv64) _
   have hsz1:=hKe.size
   have hsz0:=hx1.size
   have hbv2 : w.heap.size ≤ bv:=by omega
   have hlW2:=hW.lt
   have hlR7:=hR7w.lt
   have nvh : bv ≠ bh:=by omega
   have nvw : bv ≠ bw:=by omega
   have nvt : bt ≠ bv:=by omega
   have nvk : ka.block ≠ bv:=by omega
   have hW2:=hW.ext hx2
   have hH2:=hHw.ext hx2
   have hk2:=hkr.ext hx2
   have hT2:=hR7w.ext hx2
   have hK2 : Keep [bh,bw] w w2:=(((Keep.of_ext (bs:=[bh,bw]) hx1).trans hKe fun x hx=>.inl (by simp at hx;simp [hx])).ext hx2)
   clear hw2 hbv hc0 hc1 hc2 hc3 hc4 hc5 hc6 hc7 hHw hkr hR7w hsz1 hsz0 hlW2 hlR7
   go_loopw [58] (fun t58 wr=>∃ (i : Nat) (v : St64),i ≤ 80∧t58 = .int .i64 i∧Row wr bv 95 (v.l.map wv64)∧Hid (qex (ks.drop i) (cs.drop i) v = qex ks cs s)∧Keep [bv] w2 wr) (fun t58 _=>80 - (intOf t58).toNat)
   case atStart=>exact ⟨0,s,by decide,rfl,hRv,Lib.hid rfl,Keep.refl _ _⟩
   case round =>
    obtain ⟨i,v,hi,rfl,hRv,hrn,hKv⟩:=hrel
    by_cases hik : i < 80
    ·have hik' : (i : Int) < 80:=by omega
     have bi : 0 ≤ (i : Int)∧(i : Int) < 80:=by omega
     have hWz:=hW2.keep hKv (by simpa using nvw.symm)
     have hTz:=hT2.keep hKv (by simpa using nvt)
     have hkz:=hKv.rd hk2 (by simpa using nvk)
     obtain ⟨ad,ee,ck⟩:=hkz.at_ (k:=i) (by rw [List.length_map];omega)
     injection ee with ee
     subst ee
     rw [List.getElem_map] at ck
     have cx : wr.cell? ⟨bw,i,none⟩ = some (.int .u64 (n64 (cs[i]'(by omega)))):=by rw [hWz.cell (by rw [List.length_map];omega),List.getElem_map];rfl
     have hstep : qex (ks.drop (i + 1)) (cs.drop (i + 1)) (qn7 v (ks[i]'(by omega)) (cs[i]'(by omega))) = qex ks cs s:=by
      have h1:=hrn.out
      rw [List.drop_eq_getElem_cons (show i < ks.length by omega),List.drop_eq_getElem_cons (show i < cs.length by omega)] at h1
      exact h1
     have hstepx:=Lib.hid hstep
     clear hstep
     generalize ks[i]'(by omega) = kx at *
     generalize cs[i]'(by omega) = xx at *
     replace ck : wr.cell? (ka.add i) = some (.int .u64 (n64 kx)):=ck
     have vc0 : wr.cell? ⟨bv,0,none⟩ = some (.int .u64 (n64 v.a)):=(hRv.cell (i:=0) (by simp [St64.l])).trans rfl
     have vc1 : wr.cell? ⟨bv,1,none⟩ = some (.int .u64 (n64 v.b)):=(hRv.cell (i:=1) (by simp [St64.l])).trans rfl
     have vc2 : wr.cell? ⟨bv,2,none⟩ = some (.int .u64 (n64 v.c)):=(hRv.cell (i:=2) (by simp [St64.l])).trans rfl
     have vc3 : wr.cell? ⟨bv,3,none⟩ = some (.int .u64 (n64 v.d)):=(hRv.cell (i:=3) (by simp [St64.l])).trans rfl
     have vc4 : wr.cell? ⟨bv,4,none⟩ = some (.int .u64 (n64 v.e)):=(hRv.cell (i:=4) (by simp [St64.l])).trans rfl
     have vc5 : wr.cell? ⟨bv,5,none⟩ = some (.int .u64 (n64 v.f)):=(hRv.cell (i:=5) (by simp [St64.l])).trans rfl
     have vc6 : wr.cell? ⟨bv,6,none⟩ = some (.int .u64 (n64 v.g)):=(hRv.cell (i:=6) (by simp [St64.l])).trans rfl
     have vc7 : wr.cell? ⟨bv,7,none⟩ = some (.int .u64 (n64 v.h)):=(hRv.cell (i:=7) (by simp [St64.l])).trans rfl
     have d6 : wr.cell? ⟨bt,6,none⟩ = some (.int .i64 28):=(hTz.cell (i:=6) (by decide)).trans rfl
     have d7 : wr.cell? ⟨bt,7,none⟩ = some (.int .i64 34):=(hTz.cell (i:=7) (by decide)).trans rfl
     have d8 : wr.cell? ⟨bt,8,none⟩ = some (.int .i64 39):=(hTz.cell (i:=8) (by decide)).trans rfl
     have d9 : wr.cell? ⟨bt,9,none⟩ = some (.int .i64 14):=(hTz.cell (i:=9) (by decide)).trans rfl
     have d10 : wr.cell? ⟨bt,10,none⟩ = some (.int .i64 18):=(hTz.cell (i:=10) (by decide)).trans rfl
     have d11 : wr.cell? ⟨bt,11,none⟩ = some (.int .i64 41):=(hTz.cell (i:=11) (by decide)).trans rfl
     have q1:=fun w=>qnl v.e 14 18 41 w (by decide) (by decide) (by decide) (by decide) (by decide) (by decide)
     have q0:=fun w=>qnl v.a 28 34 39 w (by decide) (by decide) (by decide) (by decide) (by decide) (by decide)
     obtain ⟨y1,hy1⟩ : ∃ y,y = qe9 v.e 14 18 41:=⟨_,rfl⟩
     obtain ⟨y0,hy0⟩ : ∃ y,y = qe9 v.a 28 34 39:=⟨_,rfl⟩
     rw [← hy1] at q1
     rw [← hy0] at q0
     replace hy1:=Lib.hid hy1
     replace hy0:=Lib.hid hy0
     clear hrn
     go_upto_region 9 with fail
     refine qbd (fun w'=>Ext wr w') (by kernel_rfl) (qae _) ?_
     refine gS (i:=0) (some 63) (v:=?_) rfl rfl (by kernel_rfl) (fun _ _ _ h=>h) (by rfl) (fun w hS=>?_) ?_
     rotate_left
     ·(try go_simp)
      refine ⟨?_,hS⟩
      with_reducible rfl
     simp only [Act.put,zA,zB,zC]
     refine gS (i:=1) (some 64) (v:=?_) rfl rfl (by kernel_rfl) (fun _ _ _ h=>h) (by rfl) (fun w hS=>?_) ?_
     rotate_left
     ·have e1:=Ext.cell hS vc7
      go_simp
      refine ⟨?_,hS⟩
      with_reducible rfl
     simp only [Act.put,zA,zB,zC]
     refine gS (i:=2) (some 65) (v:=?_) rfl rfl (by kernel_rfl) (fun _ _ _ h=>h) (by rfl) (fun w hS=>?_) ?_
     rotate_left
     ·(try go_simp)
      refine ⟨?_,hS⟩
      with_reducible rfl
     simp only [Act.put,zA,zB,zC]
     refine gS (i:=3) (some 66) (v:=?_) rfl rfl (by kernel_rfl) (fun _ _ _ h=>h) (by rfl) (fun w hS=>?_) ?_
     rotate_left
     ·have e1:=Ext.cell hS vc4
      go_simp
      refine ⟨?_,hS⟩
      with_reducible rfl
     simp only [Act.put,zA,zB,zC]
     refine gS (i:=4) (some 67) (v:=?_) rfl rfl (by kernel_rfl) (fun _ _ _ h=>h) (by rfl) (fun w hS=>?_) ?_
     rotate_left
     ·(try go_simp)
      refine ⟨?_,hS⟩
      with_reducible rfl
     simp only [Act.put,zA,zB,zC]
     refine gS (i:=5) (some 68) (v:=?_) rfl rfl (by kernel_rfl) (fun _ _ _ h=>h) (by rfl) (fun w hS=>?_) ?_
     rotate_left
     ·have e1:=Ext.cell hS d9;have e2:=Ext.cell hS d10;have e3:=Ext.cell hS d11
      go_simp
      refine ⟨?_,hS⟩
      with_reducible rfl
     simp only [Act.put,zA,zB,zC]
     refine gS (i:=6) (some 69) (v:=?_) rfl rfl (by kernel_rfl) (fun _ _ _ h=>h) (by rfl) (fun w hS=>?_) ?_
     rotate_left
     ·go_simp
      change Calls _ _ _ _ _
      refine Calls.mono (q1 _) ?_
      rintro e w' ⟨rfl,hx⟩
      refine ⟨?_,hS.trans hx⟩
      with_reducible rfl
     simp only [Act.put,zA,zB,zC]
     refine gS (i:=7) (some 70) (v:=?_) rfl rfl (by kernel_rfl) (fun _ _ _ h=>h) (by rfl) (fun w hS=>?_) ?_
     rotate_left
     ·(try go_simp)
      refine ⟨?_,hS⟩
      with_reducible rfl
     simp only [Act.put,zA,zB,zC]
     refine gS (i:=8) (some 71) (v:=?_) rfl rfl (by kernel_rfl) (fun _ _ _ h=>h) (by rfl) (fun w hS=>?_) ?_
     rotate_left
     ·(try go_simp)
      refine ⟨?_,hS⟩
      with_reducible rfl
     simp only [Act.put,zA,zB,zC]
     refine gS (i:=9) (some 72) (v:=?_) rfl rfl (by kernel_rfl) (fun _ _ _ h=>h) (by rfl) (fun w hS=>?_) ?_
     rotate_left
     ·have e1:=Ext.cell hS vc4
      go_simp
      refine ⟨?_,hS⟩
      with_reducible rfl
     simp only [Act.put,zA,zB,zC]
     refine gS (i:=10) (some 73) (v:=?_) rfl rfl (by kernel_rfl) (fun _ _ _ h=>h) (by rfl) (fun w hS=>?_) ?_
     rotate_left
     ·(try go_simp)
      refine ⟨?_,hS⟩
      with_reducible rfl
     simp only [Act.put,zA,zB,zC]
     refine gS (i:=11) (some 74) (v:=?_) rfl rfl (by kernel_rfl) (fun _ _ _ h=>h) (by rfl) (fun w hS=>?_) ?_
     rotate_left
     ·have e1:=Ext.cell hS vc5
      go_simp
      refine ⟨?_,hS⟩
      with_reducible rfl
     simp only [Act.put,zA,zB,zC]
     refine gS (i:=12) (some 75) (v:=?_) rfl rfl (by kernel_rfl) (fun _ _ _ h=>h) (by rfl) (fun w hS=>?_) ?_
     rotate_left
     ·(try go_simp)
      refine ⟨?_,hS⟩
      with_reducible rfl
     simp only [Act.put,zA,zB,zC]
     refine gS (i:=13) (some 76) (v:=?_) rfl rfl (by kernel_rfl) (fun _ _ _ h=>h) (by rfl) (fun w hS=>?_) ?_
     rotate_left
     ·(try go_simp)
      refine ⟨?_,hS⟩
      with_reducible rfl
     simp only [Act.put,zA,zB,zC]
     refine gS (i:=14) (some 77) (v:=?_) rfl rfl (by kernel_rfl) (fun _ _ _ h=>h) (by rfl) (fun w hS=>?_) ?_
     rotate_left
     ·have e1:=Ext.cell hS vc4
      go_simp
      refine ⟨?_,hS⟩
      with_reducible rfl
     simp only [Act.put,zA,zB,zC]
     refine gS (i:=15) (some 78) (v:=?_) rfl rfl (by kernel_rfl) (fun _ _ _ h=>h) (by rfl) (fun w hS=>?_) ?_
     rotate_left
     ·(try go_simp)
      refine ⟨?_,hS⟩
      with_reducible rfl
     simp only [Act.put,zA,zB,zC]
     refine gS (i:=16) (some 79) (v:=?_) rfl rfl (by kernel_rfl) (fun _ _ _ h=>h) (by rfl) (fun w hS=>?_) ?_
     rotate_left
     ·(try go_simp)
      refine ⟨?_,hS⟩
      with_reducible rfl
     simp only [Act.put,zA,zB,zC]
     refine gS (i:=17) (some 80) (v:=?_) rfl rfl (by kernel_rfl) (fun _ _ _ h=>h) (by rfl) (fun w hS=>?_) ?_
     rotate_left
     ·have e1:=Ext.cell hS vc6
      go_simp
      refine ⟨?_,hS⟩
      with_reducible rfl
     simp only [Act.put,zA,zB,zC]
     refine gS (i:=18) (some 81) (v:=?_) rfl rfl (by kernel_rfl) (fun _ _ _ h=>h) (by rfl) (fun w hS=>?_) ?_
     rotate_left
     ·(try go_simp)
      refine ⟨?_,hS⟩
      with_reducible rfl
     simp only [Act.put,zA,zB,zC]
     refine gS (i:=19) (some 82) (v:=?_) rfl rfl (by kernel_rfl) (fun _ _ _ h=>h) (by rfl) (fun w hS=>?_) ?_
     rotate_left
     ·(try go_simp)
      refine ⟨?_,hS⟩
      with_reducible rfl
     simp only [Act.put,zA,zB,zC]
     refine gS (i:=20) (some 83) (v:=?_) rfl rfl (by kernel_rfl) (fun _ _ _ h=>h) (by rfl) (fun w hS=>?_) ?_
     rotate_left
     ·(try go_simp)
      refine ⟨?_,hS⟩
      with_reducible rfl
     simp only [Act.put,zA,zB,zC]
     refine gS (i:=21) (some 84) (v:=?_) rfl rfl (by kernel_rfl) (fun _ _ _ h=>h) (by rfl) (fun w hS=>?_) ?_
     rotate_left
     ·(try go_simp)
      refine ⟨?_,hS⟩
      with_reducible rfl
     simp only [Act.put,zA,zB,zC]
     refine gS (i:=22) (some 85) (v:=?_) rfl rfl (by kernel_rfl) (fun _ _ _ h=>h) (by rfl) (fun w hS=>?_) ?_
     rotate_left
     ·(try go_simp)
      refine ⟨?_,hS⟩
      with_reducible rfl
     simp only [Act.put,zA,zB,zC]
     refine gS (i:=23) (some 86) (v:=?_) rfl rfl (by kernel_rfl) (fun _ _ _ h=>h) (by rfl) (fun w hS=>?_) ?_
     rotate_left
     ·(try go_simp)
      refine ⟨?_,hS⟩
      with_reducible rfl
     simp only [Act.put,zA,zB,zC]
     refine gS (i:=24) (some 87) (v:=?_) rfl rfl (by kernel_rfl) (fun _ _ _ h=>h) (by rfl) (fun w hS=>?_) ?_
     rotate_left
     ·have e1:=Ext.cell hS ck
      go_simp
      refine ⟨?_,hS⟩
      with_reducible rfl
     simp only [Act.put,zA,zB,zC]
     refine gS (i:=25) (some 88) (v:=?_) rfl rfl (by kernel_rfl) (fun _ _ _ h=>h) (by rfl) (fun w hS=>?_) ?_
     rotate_left
     ·(try go_simp)
      refine ⟨?_,hS⟩
      with_reducible rfl
     simp only [Act.put,zA,zB,zC]
     refine gS (i:=26) (some 89) (v:=?_) rfl rfl (by kernel_rfl) (fun _ _ _ h=>h) (by rfl) (fun w hS=>?_) ?_
     rotate_left
     ·(try go_simp)
      refine ⟨?_,hS⟩
      with_reducible rfl
     simp only [Act.put,zA,zB,zC]
     refine gS (i:=27) (some 90) (v:=?_) rfl rfl (by kernel_rfl) (fun _ _ _ h=>h) (by rfl) (fun w hS=>?_) ?_
     rotate_left
     ·(try go_simp)
      refine ⟨?_,hS⟩
      with_reducible rfl
     simp only [Act.put,zA,zB,zC]
     refine gS (i:=28) (some 12) (v:=?_) rfl rfl (by kernel_rfl) (fun _ _ _ h=>h) (by rfl) (fun w hS=>?_) ?_
     rotate_left
     ·(try go_simp)
      refine ⟨?_,hS⟩
      with_reducible rfl
     simp only [Act.put,zA,zB,zC]
     refine qbv (by kernel_rfl) fun w3 hS3=>?_
     replace vc0:=Ext.cell hS3 vc0
     replace vc1:=Ext.cell hS3 vc1
     replace vc2:=Ext.cell hS3 vc2
     replace vc3:=Ext.cell hS3 vc3
     replace vc4:=Ext.cell hS3 vc4
     replace vc5:=Ext.cell hS3 vc5
     replace vc6:=Ext.cell hS3 vc6
     replace vc7:=Ext.cell hS3 vc7
     replace d6:=Ext.cell hS3 d6
     replace d7:=Ext.cell hS3 d7
     replace d8:=Ext.cell hS3 d8
     replace hRv:=hRv.ext hS3
     replace hKv:=hKv.ext hS3
     clear hS3 ck cx q1 hWz hTz hkz
     go_upto_region 10 with fail
     refine qbd (fun w'=>Ext w3 w') (by kernel_rfl) (qae _) ?_
     refine gS (i:=0) (some 91) (v:=?_) rfl rfl (by kernel_rfl) (fun _ _ _ h=>h) (by rfl) (fun w hS=>?_) ?_
     rotate_left
     ·(try go_simp)
      refine ⟨?_,hS⟩
      with_reducible rfl
     simp only [Act.put,zA,zB,zC]
     refine gS (i:=1) (some 92) (v:=?_) rfl rfl (by kernel_rfl) (fun _ _ _ h=>h) (by rfl) (fun w hS=>?_) ?_
     rotate_left
     ·have e1:=Ext.cell hS vc0
      go_simp
      refine ⟨?_,hS⟩
      with_reducible rfl
     simp only [Act.put,zA,zB,zC]
     refine gS (i:=2) (some 93) (v:=?_) rfl rfl (by kernel_rfl) (fun _ _ _ h=>h) (by rfl) (fun w hS=>?_) ?_
     rotate_left
     ·(try go_simp)
      refine ⟨?_,hS⟩
      with_reducible rfl
     simp only [Act.put,zA,zB,zC]
     refine gS (i:=3) (some 94) (v:=?_) rfl rfl (by kernel_rfl) (fun _ _ _ h=>h) (by rfl) (fun w hS=>?_) ?_
     rotate_left
     ·have e1:=Ext.cell hS d6;have e2:=Ext.cell hS d7;have e3:=Ext.cell hS d8
      go_simp
      refine ⟨?_,hS⟩
      with_reducible rfl
     simp only [Act.put,zA,zB,zC]
     refine gS (i:=4) (some 95) (v:=?_) rfl rfl (by kernel_rfl) (fun _ _ _ h=>h) (by rfl) (fun w hS=>?_) ?_
     rotate_left
     ·go_simp
      change Calls _ _ _ _ _
      refine Calls.mono (q0 _) ?_
      rintro e w' ⟨rfl,hx⟩
      refine ⟨?_,hS.trans hx⟩
      with_reducible rfl
     simp only [Act.put,zA,zB,zC]
     refine gS (i:=5) (some 96) (v:=?_) rfl rfl (by kernel_rfl) (fun _ _ _ h=>h) (by rfl) (fun w hS=>?_) ?_
     rotate_left
     ·(try go_simp)
      refine ⟨?_,hS⟩
      with_reducible rfl
     simp only [Act.put,zA,zB,zC]
     refine gS (i:=6) (some 97) (v:=?_) rfl rfl (by kernel_rfl) (fun _ _ _ h=>h) (by rfl) (fun w hS=>?_) ?_
     rotate_left
     ·have e1:=Ext.cell hS vc0
      go_simp
      refine ⟨?_,hS⟩
      with_reducible rfl
     simp only [Act.put,zA,zB,zC]
     refine gS (i:=7) (some 98) (v:=?_) rfl rfl (by kernel_rfl) (fun _ _ _ h=>h) (by rfl) (fun w hS=>?_) ?_
     rotate_left
     ·(try go_simp)
      refine ⟨?_,hS⟩
      with_reducible rfl
     simp only [Act.put,zA,zB,zC]
     refine gS (i:=8) (some 99) (v:=?_) rfl rfl (by kernel_rfl) (fun _ _ _ h=>h) (by rfl) (fun w hS=>?_) ?_
     rotate_left
     ·have e1:=Ext.cell hS vc1
      go_simp
      refine ⟨?_,hS⟩
      with_reducible rfl
     simp only [Act.put,zA,zB,zC]
     refine gS (i:=9) (some 100) (v:=?_) rfl rfl (by kernel_rfl) (fun _ _ _ h=>h) (by rfl) (fun w hS=>?_) ?_
     rotate_left
     ·(try go_simp)
      refine ⟨?_,hS⟩
      with_reducible rfl
     simp only [Act.put,zA,zB,zC]
     refine gS (i:=10) (some 101) (v:=?_) rfl rfl (by kernel_rfl) (fun _ _ _ h=>h) (by rfl) (fun w hS=>?_) ?_
     rotate_left
     ·(try go_simp)
      refine ⟨?_,hS⟩
      with_reducible rfl
     simp only [Act.put,zA,zB,zC]
     refine gS (i:=11) (some 102) (v:=?_) rfl rfl (by kernel_rfl) (fun _ _ _ h=>h) (by rfl) (fun w hS=>?_) ?_
     rotate_left
     ·have e1:=Ext.cell hS vc0
      go_simp
      refine ⟨?_,hS⟩
      with_reducible rfl
     simp only [Act.put,zA,zB,zC]
     refine gS (i:=12) (some 103) (v:=?_) rfl rfl (by kernel_rfl) (fun _ _ _ h=>h) (by rfl) (fun w hS=>?_) ?_
     rotate_left
     ·(try go_simp)
      refine ⟨?_,hS⟩
      with_reducible rfl
     simp only [Act.put,zA,zB,zC]
     refine gS (i:=13) (some 104) (v:=?_) rfl rfl (by kernel_rfl) (fun _ _ _ h=>h) (by rfl) (fun w hS=>?_) ?_
     rotate_left
     ·have e1:=Ext.cell hS vc2
      go_simp
      refine ⟨?_,hS⟩
      with_reducible rfl
     simp only [Act.put,zA,zB,zC]
     refine gS (i:=14) (some 105) (v:=?_) rfl rfl (by kernel_rfl) (fun _ _ _ h=>h) (by rfl) (fun w hS=>?_) ?_
     rotate_left
     ·(try go_simp)
      refine ⟨?_,hS⟩
      with_reducible rfl
     simp only [Act.put,zA,zB,zC]
     refine gS (i:=15) (some 106) (v:=?_) rfl rfl (by kernel_rfl) (fun _ _ _ h=>h) (by rfl) (fun w hS=>?_) ?_
     rotate_left
     ·(try go_simp)
      refine ⟨?_,hS⟩
      with_reducible rfl
     simp only [Act.put,zA,zB,zC]
     refine gS (i:=16) (some 107) (v:=?_) rfl rfl (by kernel_rfl) (fun _ _ _ h=>h) (by rfl) (fun w hS=>?_) ?_
     rotate_left
     ·(try go_simp)
      refine ⟨?_,hS⟩
      with_reducible rfl
     simp only [Act.put,zA,zB,zC]
     refine gS (i:=17) (some 108) (v:=?_) rfl rfl (by kernel_rfl) (fun _ _ _ h=>h) (by rfl) (fun w hS=>?_) ?_
     rotate_left
     ·have e1:=Ext.cell hS vc1
      go_simp
      refine ⟨?_,hS⟩
      with_reducible rfl
     simp only [Act.put,zA,zB,zC]
     refine gS (i:=18) (some 109) (v:=?_) rfl rfl (by kernel_rfl) (fun _ _ _ h=>h) (by rfl) (fun w hS=>?_) ?_
     rotate_left
     ·(try go_simp)
      refine ⟨?_,hS⟩
      with_reducible rfl
     simp only [Act.put,zA,zB,zC]
     refine gS (i:=19) (some 110) (v:=?_) rfl rfl (by kernel_rfl) (fun _ _ _ h=>h) (by rfl) (fun w hS=>?_) ?_
     rotate_left
     ·have e1:=Ext.cell hS vc2
      go_simp
      refine ⟨?_,hS⟩
      with_reducible rfl
     simp only [Act.put,zA,zB,zC]
     refine gS (i:=20) (some 111) (v:=?_) rfl rfl (by kernel_rfl) (fun _ _ _ h=>h) (by rfl) (fun w hS=>?_) ?_
     rotate_left
     ·(try go_simp)
      refine ⟨?_,hS⟩
      with_reducible rfl
     simp only [Act.put,zA,zB,zC]
     refine gS (i:=21) (some 112) (v:=?_) rfl rfl (by kernel_rfl) (fun _ _ _ h=>h) (by rfl) (fun w hS=>?_) ?_
     rotate_left
     ·(try go_simp)
      refine ⟨?_,hS⟩
      with_reducible rfl
     simp only [Act.put,zA,zB,zC]
     refine gS (i:=22) (some 113) (v:=?_) rfl rfl (by kernel_rfl) (fun _ _ _ h=>h) (by rfl) (fun w hS=>?_) ?_
     rotate_left
     ·(try go_simp)
      refine ⟨?_,hS⟩
      with_reducible rfl
     simp only [Act.put,zA,zB,zC]
     refine gS (i:=23) (some 13) (v:=?_) rfl rfl (by kernel_rfl) (fun _ _ _ h=>h) (by rfl) (fun w hS=>?_) ?_
     rotate_left
     ·(try go_simp)
      refine ⟨?_,hS⟩
      with_reducible rfl
     simp only [Act.put,zA,zB,zC]
     refine qbv (by kernel_rfl) fun w4 hS4=>?_
     replace vc0:=Ext.cell hS4 vc0
     replace vc1:=Ext.cell hS4 vc1
     replace vc2:=Ext.cell hS4 vc2
     replace vc3:=Ext.cell hS4 vc3
     replace vc4:=Ext.cell hS4 vc4
     replace vc5:=Ext.cell hS4 vc5
     replace vc6:=Ext.cell hS4 vc6
     replace vc7:=Ext.cell hS4 vc7
     replace hRv:=hRv.ext hS4
     replace hKv:=hKv.ext hS4
     have fr0:=hRv.fro 0
     have fr1:=hRv.fro 1
     have fr2:=hRv.fro 2
     have fr3:=hRv.fro 3
     have fr4:=hRv.fro 4
     have fr5:=hRv.fro 5
     have fr6:=hRv.fro 6
     have fr7:=hRv.fro 7
     clear hS4 q0
     go_wp2
     refine ⟨⟨i + 1,qn7 v kx xx,by omega,by go_num,?_,hstepx,?_⟩,by simp [intOf];omega⟩
     ·have e1 : ql2 v kx xx = v.h + y1 + (v.e &&& v.f ^^^ ~~~v.e &&& v.g) + kx + xx:=by rw [hy1.out];rfl
      have e2 : qrj v = y0 + (v.a &&& v.b ^^^ v.a &&& v.c ^^^ v.b &&& v.c):=by rw [hy0.out];rfl
      have e3 : (qn7 v kx xx).l = [ql2 v kx xx + qrj v,v.a,v.b,v.c,v.d + ql2 v kx xx,v.e,v.f,v.g]:=rfl
      rw [e3,e1,e2]
      exact (Row.set (Row.set (Row.set (Row.set (Row.set (Row.set (Row.set (Row.set hRv 0 _) 1 _) 2 _) 3 _) 4 _) 5 _) 6 _) 7 _)
     ·refine Keep.same ?_ (Keep.setCell _ ⟨bv,7,none⟩ _);refine Keep.same ?_ (Keep.setCell _ ⟨bv,6,none⟩ _);refine Keep.same ?_ (Keep.setCell _ ⟨bv,5,none⟩ _);refine Keep.same ?_ (Keep.setCell _ ⟨bv,4,none⟩ _);refine Keep.same ?_ (Keep.setCell _ ⟨bv,3,none⟩ _);refine Keep.same ?_ (Keep.setCell _ ⟨bv,2,none⟩ _);refine Keep.same ?_ (Keep.setCell _ ⟨bv,1,none⟩ _);refine Keep.same ?_ (Keep.setCell _ ⟨bv,0,none⟩ _);exact hKv
    ·obtain rfl : i = 80:=by omega
     have hv : v = qex ks cs s:=by
      have h1:=hrn.out
      rw [List.drop_of_length_le (by omega)] at h1
      rw [← h1]
      cases ks.drop 80 <;> rfl
     have hH3:=hH2.keep hKv (by simpa using nvh.symm)
     have hW3:=hW2.keep hKv (by simpa using nvw.symm)
     have hK3:=hK2.trans hKv (fun x hx=>.inr (by simp at hx;omega))
     rw [← hv] at hblk
     clear hrn hv
     obtain ⟨w5,hw5⟩ : ∃ w5,w5 = wr:=⟨_,rfl⟩
     subst hw5
     go_wp2
     go_loopw [135] (fun t135 wr=>∃ (i : Nat) (hc : List UInt64),i ≤ 8∧t135 = .int .i64 i∧hc.length = 8∧Row wr bh 95 (hc.map wv64)∧Hid (hc = qim s.l v.l i)∧Keep [bh] w5 wr) (fun t135 _=>8 - (intOf t135).toNat)
     case atStart=>exact ⟨0,s.l,by decide,rfl,rfl,hH3,Lib.hid rfl,Keep.refl _ _⟩
     case round =>
      obtain ⟨i,hcu,hi,rfl,hcl8,hH3,hcu8,hKh⟩:=hrel
      by_cases hi8 : i < 8
      ·have hi8' : (i : Int) < 8:=by omega
       have bi : 0 ≤ (i : Int)∧(i : Int) < 8:=by omega
       have hRv5:=hRv.keep hKh (by simpa using nvh)
       have hvl : v.l.length = 8:=rfl
       have ch : wr.cell? ⟨bh,i,none⟩ = some (.int .u64 (n64 (hcu[i]'(by omega)))):=by rw [hH3.cell (by rw [List.length_map];omega),List.getElem_map];rfl
       have cv : wr.cell? ⟨bv,i,none⟩ = some (.int .u64 (n64 (v.l[i]'(by omega)))):=by rw [hRv5.cell (by rw [List.length_map];omega),List.getElem_map];rfl
       have fh:=hH3.fro i
       have hnew : qim s.l v.l (i + 1) = hcu.set i (hcu[i]'(by omega) + v.l[i]'(by omega)):=by
        have h0:=qlf s.l v.l i i (Nat.le_refl _)
        rw [← hcu8.out,qbo hcu i (by omega)] at h0
        simp only [qim]
        rw [← hcu8.out,← h0,qbo v.l i (by omega)]
       replace hnew:=Lib.hid hnew
       generalize hcu[i]'(by omega) = p at *
       generalize v.l[i]'(by omega) = q at *
       clear hcu8
       go_wp2
       go_region
       go_wp2
       refine ⟨⟨i + 1,hcu.set i (p + q),by omega,by go_num,by rw [List.length_set];exact hcl8,?_,Lib.hid hnew.out.symm,?_⟩,by simp [intOf];omega⟩
       ·rw [List.map_set]
        exact (hH3.ext (qae _)).set i _
       ·exact (hKh.ext (qae _)).same (Keep.setCell _ ⟨bh,i,none⟩ _)
      ·obtain rfl : i = 8:=by omega
       have hres : Row wr bh 95 ((qc4 ks ws s).l.map wv64):=by
        rw [hblk,← qr1,← hcu8.out]
        exact hH3
       have hW4:=hW3.keep hKh (by simpa using hne.symm)
       clear hcu8 hblk
       go_wp2
       go_end0
       exact ⟨rfl,hres,⟨cs,hcl,hW4⟩,hK3.trans hKh fun x hx=>.inl (by simp at hx;simp [hx])⟩
end Go.Proofs.YtgeihelkkhjjaaaGreatDoor
