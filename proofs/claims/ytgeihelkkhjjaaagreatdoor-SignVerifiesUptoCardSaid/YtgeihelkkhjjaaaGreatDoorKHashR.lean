/-
  Texts of the lemmas below the claim, put together: HashG HashH HashI HashO HashQ HashR.
-/
import Derived.Test.YtgeihelkkhjjaaaGreatDoorKHashE
import Derived.Laws.Tables
import Derived.Laws.CopyOwn
import Derived.Test.YtgeihelkkhjjaaaGreatDoorKHashN
import Derived.BigQuiet
set_option linter.unusedSimpArgs false
set_option linter.unusedVariables false
set_option maxRecDepth 20000
set_option maxHeartbeats 32000000
section
namespace Go.Cv.Hash
open Go.RowKit
def K64 : List UInt64:=[4794697086780616226,8158064640168781261,13096744586834688815,16840607885511220156,4131703408338449720,6480981068601479193,10538285296894168987,12329834152419229976,15566598209576043074,1334009975649890238,2608012711638119052,6128411473006802146,8268148722764581231,9286055187155687089,11230858885718282805,13951009754708518548,16472876342353939154,17275323862435702243,1135362057144423861,2597628984639134821,3308224258029322869,5365058923640841347,6679025012923562964,8573033837759648693,10970295158949994411,12119686244451234320,12683024718118986047,13788192230050041572,14330467153632333762,15395433587784984357,489312712824947311,1452737877330783856,2861767655752347644,3322285676063803686,5560940570517711597,5996557281743188959,7280758554555802590,8532644243296465576,9350256976987008742,10552545826968843579,11727347734174303076,12113106623233404929,14000437183269869457,14369950271660146224,15101387698204529176,15463397548674623760,17586052441742319658,1182934255886127544,1847814050463011016,2177327727835720531,2830643537854262169,3796741975233480872,4115178125766777443,5681478168544905931,6601373596472566643,7507060721942968483,8399075790359081724,8693463985226723168,9568029438360202098,10144078919501101548,10430055236837252648,11840083180663258601,13761210420658862357,14299343276471374635,14566680578165727644,15097957966210449927,16922976911328602910,17689382322260857208,500013540394364858,748580250866718886,1242879168328830382,1977374033974150939,2944078676154940804,3659926193048069267,4368137639120453308,4836135668995329356,5532061633213252278,6448918945643986474,6902733635092675308,7801388544844847127]
def B64 : St64:=⟨7640891576956012808,13503953896175478587,4354685564936845355,11912009170470909681,5840696475078001361,11170449401992604703,2270897969802886507,6620516959819538809⟩
def ql0 (t : St64) (k : Nat) : UInt8:=((t.l.getD (k / 8) 0) >>> UInt64.ofNat (8 * (7 - k % 8))).toUInt8
def digest64 (t : St64) : List UInt8:=(List.range 64).map (ql0 t)
def hash64 (l : List UInt8) : List UInt8:=digest64 (qfp K64 ((qde l).length / 128) (qde l) B64)
def Tab64 (w : World) : Prop:=Rd w (some ⟨1,0,none⟩) (K64.map wv64)∧Rd w (some ⟨0,0,none⟩) (B64.l.map wv64)
theorem Tab64.ext {w w' : World} (h : Tab64 w) (hx : Ext w w') : Tab64 w':=⟨h.1.ext hx,h.2.ext hx⟩
end Go.Cv.Hash
namespace Go.Proofs.YtgeihelkkhjjaaaGreatDoor
open Go.RowKit Go.Cv Go.Cv.Hash Go.Cv.Dig

theorem qi1 : (Tryz.prog.info? 26).map (·.size) = some 64:=by kernel_rfl
theorem idx64 (T : St64) (i : Nat) (w : World) (h : i < 8) : (Instr.index 95 (.agg #[.int .u64 (n64 T.a),.int .u64 (n64 T.b),.int .u64 (n64 T.c),.int .u64 (n64 T.d),.int .u64 (n64 T.e),.int .u64 (n64 T.f),.int .u64 (n64 T.g),.int .u64 (n64 T.h)]) (.int .i64 (i : Int))).run Tryz.prog w = .ok (.int .u64 (n64 (T.l.getD i 0))) w:=by
 rcases (by omega : i = 0 ∨ i = 1 ∨ i = 2 ∨ i = 3 ∨ i = 4 ∨ i = 5 ∨ i = 6 ∨ i = 7) with rfl | rfl | rfl | rfl | rfl | rfl | rfl | rfl
 all_goals kernel_rfl
theorem qit (A : Option Addr) (n c : Nat) (l : List UInt8) (w : World) (hl : l.length = n) (hnc : n ≤ c) (hr : Rd w A (l.map bv)) (bnd : n ≤ 5000000) (hT : Tab64 w) :
  Calls Tryz.prog 41 #[.slice A n c] w fun e w'=>e = .returned (.agg ((hash64 l).map bv).toArray)∧Ext w w':=by
 obtain ⟨T,hTT⟩ : ∃ T,T = qfp K64 ((qde l).length / 128) (qde l) B64:=⟨_,rfl⟩
 have hh : hash64 l = digest64 T:=by rw [hTT];rfl
 rw [hh]
 have hTx:=Lib.hid hTT
 clear hTT hh
 have hsum : ∀ w1,Ext w w1→Calls Tryz.prog 69 #[.slice A n c,.int .i64 8,.agg #[.int .u64 (n64 B64.a),.int .u64 (n64 B64.b),.int .u64 (n64 B64.c),.int .u64 (n64 B64.d),.int .u64 (n64 B64.e),.int .u64 (n64 B64.f),.int .u64 (n64 B64.g),.int .u64 (n64 B64.h)],.slice (some ⟨1,0,none⟩) 80 80,.agg #[.int .i64 1,.int .i64 8,.int .i64 7,.int .i64 19,.int .i64 61,.int .i64 6,.int .i64 28,.int .i64 34,.int .i64 39,.int .i64 14,.int .i64 18,.int .i64 41]] w1 fun e w'=>e = .returned (.agg #[.int .u64 (n64 T.a),.int .u64 (n64 T.b),.int .u64 (n64 T.c),.int .u64 (n64 T.d),.int .u64 (n64 T.e),.int .u64 (n64 T.f),.int .u64 (n64 T.g),.int .u64 (n64 T.h)])∧Ext w1 w':=fun w1 hx=>by
  refine (sum_64 A n c l B64 ⟨1,0,none⟩ 80 K64 w1 hl hnc (hr.ext hx) bnd rfl (hT.1.ext hx)).mono fun e w' h=>?_
  rw [← hTx.out] at h
  exact h
 have hb0 : w.cell? ⟨0,0,none⟩ = some (.int .u64 (n64 B64.a)):=by
  obtain ⟨ad,e,hc⟩:=hT.2.at_ (k:=0) (by rw [List.length_map];decide)
  injection e with e
  subst e
  exact hc
 have hb1 : w.cell? ⟨0,1,none⟩ = some (.int .u64 (n64 B64.b)):=by
  obtain ⟨ad,e,hc⟩:=hT.2.at_ (k:=1) (by rw [List.length_map];decide)
  injection e with e
  subst e
  exact hc
 have hb2 : w.cell? ⟨0,2,none⟩ = some (.int .u64 (n64 B64.c)):=by
  obtain ⟨ad,e,hc⟩:=hT.2.at_ (k:=2) (by rw [List.length_map];decide)
  injection e with e
  subst e
  exact hc
 have hb3 : w.cell? ⟨0,3,none⟩ = some (.int .u64 (n64 B64.d)):=by
  obtain ⟨ad,e,hc⟩:=hT.2.at_ (k:=3) (by rw [List.length_map];decide)
  injection e with e
  subst e
  exact hc
 have hb4 : w.cell? ⟨0,4,none⟩ = some (.int .u64 (n64 B64.e)):=by
  obtain ⟨ad,e,hc⟩:=hT.2.at_ (k:=4) (by rw [List.length_map];decide)
  injection e with e
  subst e
  exact hc
 have hb5 : w.cell? ⟨0,5,none⟩ = some (.int .u64 (n64 B64.f)):=by
  obtain ⟨ad,e,hc⟩:=hT.2.at_ (k:=5) (by rw [List.length_map];decide)
  injection e with e
  subst e
  exact hc
 have hb6 : w.cell? ⟨0,6,none⟩ = some (.int .u64 (n64 B64.g)):=by
  obtain ⟨ad,e,hc⟩:=hT.2.at_ (k:=6) (by rw [List.length_map];decide)
  injection e with e
  subst e
  exact hc
 have hb7 : w.cell? ⟨0,7,none⟩ = some (.int .u64 (n64 B64.h)):=by
  obtain ⟨ad,e,hc⟩:=hT.2.at_ (k:=7) (by rw [List.length_map];decide)
  injection e with e
  subst e
  exact hc
 go_enter Tryz.func41,Tryz.ntmps41
 go_wp2
 obtain ⟨W0,hW0⟩ : ∃ W0,W0 = ((w.alloc (.cells #[.int .u8 0,.int .u8 0,.int .u8 0,.int .u8 0,.int .u8 0,.int .u8 0,.int .u8 0,.int .u8 0,.int .u8 0,.int .u8 0,.int .u8 0,.int .u8 0,.int .u8 0,.int .u8 0,.int .u8 0,.int .u8 0,.int .u8 0,.int .u8 0,.int .u8 0,.int .u8 0,.int .u8 0,.int .u8 0,.int .u8 0,.int .u8 0,.int .u8 0,.int .u8 0,.int .u8 0,.int .u8 0,.int .u8 0,.int .u8 0,.int .u8 0,.int .u8 0,.int .u8 0,.int .u8 0,.int .u8 0,.int .u8 0,.int .u8 0,.int .u8 0,.int .u8 0,.int .u8 0,.int .u8 0,.int .u8 0,.int .u8 0,.int .u8 0,.int .u8 0,.int .u8 0,.int .u8 0,.int .u8 0,.int .u8 0,.int .u8 0,.int .u8 0,.int .u8 0,.int .u8 0,.int .u8 0,.int .u8 0,.int .u8 0,.int .u8 0,.int .u8 0,.int .u8 0,.int .u8 0,.int .u8 0,.int .u8 0,.int .u8 0,.int .u8 0] 26)).alloc (.cells #[.int .i64 1,.int .i64 8,.int .i64 7,.int .i64 19,.int .i64 61,.int .i64 6,.int .i64 28,.int .i64 34,.int .i64 39,.int .i64 14,.int .i64 18,.int .i64 41] 94)).alloc (.cells #[.int .u8 0,.int .u8 0,.int .u8 0,.int .u8 0,.int .u8 0,.int .u8 0,.int .u8 0,.int .u8 0,.int .u8 0,.int .u8 0,.int .u8 0,.int .u8 0,.int .u8 0,.int .u8 0,.int .u8 0,.int .u8 0,.int .u8 0,.int .u8 0,.int .u8 0,.int .u8 0,.int .u8 0,.int .u8 0,.int .u8 0,.int .u8 0,.int .u8 0,.int .u8 0,.int .u8 0,.int .u8 0,.int .u8 0,.int .u8 0,.int .u8 0,.int .u8 0,.int .u8 0,.int .u8 0,.int .u8 0,.int .u8 0,.int .u8 0,.int .u8 0,.int .u8 0,.int .u8 0,.int .u8 0,.int .u8 0,.int .u8 0,.int .u8 0,.int .u8 0,.int .u8 0,.int .u8 0,.int .u8 0,.int .u8 0,.int .u8 0,.int .u8 0,.int .u8 0,.int .u8 0,.int .u8 0,.int .u8 0,.int .u8 0,.int .u8 0,.int .u8 0,.int .u8 0,.int .u8 0,.int .u8 0,.int .u8 0,.int .u8 0,.int .u8 0] 26):=⟨_,rfl⟩
 rw [← hW0]
 have hx0 : Ext w W0:=by rw [hW0];exact (qaa _ _).trans ((qaa _ _).trans (qaa _ _))
 obtain ⟨br,hbr⟩ : ∃ b,b = w.heap.size:=⟨_,rfl⟩
 obtain ⟨bt,hbt⟩ : ∃ b,b = w.heap.size + 1:=⟨_,rfl⟩
 obtain ⟨bo,hbo⟩ : ∃ b,b = w.heap.size + 1 + 1:=⟨_,rfl⟩
 have hRr : Row W0 br 26 ((List.replicate 64 (0 : UInt8)).map bv):=by
  rw [hW0,hbr]
  exact ((Row.alloc w ((List.replicate 64 (0 : UInt8)).map bv) _).ext (qaa _ _)).ext (qaa _ _)
 have hRt : Row W0 bt 94 [.int .i64 1,.int .i64 8,.int .i64 7,.int .i64 19,.int .i64 61,.int .i64 6,.int .i64 28,.int .i64 34,.int .i64 39,.int .i64 14,.int .i64 18,.int .i64 41]:=by
  rw [hW0,hbt]
  have e : (w.alloc (.cells #[.int .u8 0,.int .u8 0,.int .u8 0,.int .u8 0,.int .u8 0,.int .u8 0,.int .u8 0,.int .u8 0,.int .u8 0,.int .u8 0,.int .u8 0,.int .u8 0,.int .u8 0,.int .u8 0,.int .u8 0,.int .u8 0,.int .u8 0,.int .u8 0,.int .u8 0,.int .u8 0,.int .u8 0,.int .u8 0,.int .u8 0,.int .u8 0,.int .u8 0,.int .u8 0,.int .u8 0,.int .u8 0,.int .u8 0,.int .u8 0,.int .u8 0,.int .u8 0,.int .u8 0,.int .u8 0,.int .u8 0,.int .u8 0,.int .u8 0,.int .u8 0,.int .u8 0,.int .u8 0,.int .u8 0,.int .u8 0,.int .u8 0,.int .u8 0,.int .u8 0,.int .u8 0,.int .u8 0,.int .u8 0,.int .u8 0,.int .u8 0,.int .u8 0,.int .u8 0,.int .u8 0,.int .u8 0,.int .u8 0,.int .u8 0,.int .u8 0,.int .u8 0,.int .u8 0,.int .u8 0,.int .u8 0,.int .u8 0,.int .u8 0,.int .u8 0] 26)).heap.size = w.heap.size + 1:=by show (w.heap.push _).size = _;rw [Array.size_push]
  rw [← e]
  exact (Row.alloc _ [.int .i64 1,.int .i64 8,.int .i64 7,.int .i64 19,.int .i64 61,.int .i64 6,.int .i64 28,.int .i64 34,.int .i64 39,.int .i64 14,.int .i64 18,.int .i64 41] _).ext (qaa _ _)
 have hRo : Row W0 bo 26 ((List.replicate 64 (0 : UInt8)).map bv):=by
  rw [hW0,hbo]
  have e : ((w.alloc (.cells #[.int .u8 0,.int .u8 0,.int .u8 0,.int .u8 0,.int .u8 0,.int .u8 0,.int .u8 0,.int .u8 0,.int .u8 0,.int .u8 0,.int .u8 0,.int .u8 0,.int .u8 0,.int .u8 0,.int .u8 0,.int .u8 0,.int .u8 0,.int .u8 0,.int .u8 0,.int .u8 0,.int .u8 0,.int .u8 0,.int .u8 0,.int .u8 0,.int .u8 0,.int .u8 0,.int .u8 0,.int .u8 0,.int .u8 0,.int .u8 0,.int .u8 0,.int .u8 0,.int .u8 0,.int .u8 0,.int .u8 0,.int .u8 0,.int .u8 0,.int .u8 0,.int .u8 0,.int .u8 0,.int .u8 0,.int .u8 0,.int .u8 0,.int .u8 0,.int .u8 0,.int .u8 0,.int .u8 0,.int .u8 0,.int .u8 0,.int .u8 0,.int .u8 0,.int .u8 0,.int .u8 0,.int .u8 0,.int .u8 0,.int .u8 0,.int .u8 0,.int .u8 0,.int .u8 0,.int .u8 0,.int .u8 0,.int .u8 0,.int .u8 0,.int .u8 0] 26)).alloc (.cells #[.int .i64 1,.int .i64 8,.int .i64 7,.int .i64 19,.int .i64 61,.int .i64 6,.int .i64 28,.int .i64 34,.int .i64 39,.int .i64 14,.int .i64 18,.int .i64 41] 94)).heap.size = w.heap.size + 1 + 1:=by
   show ((w.heap.push _).push _).size = _
   rw [Array.size_push,Array.size_push]
  rw [← e]
  exact Row.alloc _ ((List.replicate 64 (0 : UInt8)).map bv) _
 rw [← hbo,← hbt,← hbr]
 have nro : br ≠ bo:=by omega
 have hbrB : w.heap.size ≤ br:=by omega
 have hboB : w.heap.size ≤ bo:=by omega
 have dt0 : W0.cell? ⟨bt,0,none⟩ = some (.int .i64 1):=(hRt.cell (i:=0) (by simp)).trans rfl
 have dt1 : W0.cell? ⟨bt,1,none⟩ = some (.int .i64 8):=(hRt.cell (i:=1) (by simp)).trans rfl
 have dt2 : W0.cell? ⟨bt,2,none⟩ = some (.int .i64 7):=(hRt.cell (i:=2) (by simp)).trans rfl
 have dt3 : W0.cell? ⟨bt,3,none⟩ = some (.int .i64 19):=(hRt.cell (i:=3) (by simp)).trans rfl
 have dt4 : W0.cell? ⟨bt,4,none⟩ = some (.int .i64 61):=(hRt.cell (i:=4) (by simp)).trans rfl
 have dt5 : W0.cell? ⟨bt,5,none⟩ = some (.int .i64 6):=(hRt.cell (i:=5) (by simp)).trans rfl
 have dt6 : W0.cell? ⟨bt,6,none⟩ = some (.int .i64 28):=(hRt.cell (i:=6) (by simp)).trans rfl
 have dt7 : W0.cell? ⟨bt,7,none⟩ = some (.int .i64 34):=(hRt.cell (i:=7) (by simp)).trans rfl
 have dt8 : W0.cell? ⟨bt,8,none⟩ = some (.int .i64 39):=(hRt.cell (i:=8) (by simp)).trans rfl
 have dt9 : W0.cell? ⟨bt,9,none⟩ = some (.int .i64 14):=(hRt.cell (i:=9) (by simp)).trans rfl
 have dt10 : W0.cell? ⟨bt,10,none⟩ = some (.int .i64 18):=(hRt.cell (i:=10) (by simp)).trans rfl
 have dt11 : W0.cell? ⟨bt,11,none⟩ = some (.int .i64 41):=(hRt.cell (i:=11) (by simp)).trans rfl
 replace hb0:=Ext.cell hx0 hb0
 replace hb1:=Ext.cell hx0 hb1
 replace hb2:=Ext.cell hx0 hb2
 replace hb3:=Ext.cell hx0 hb3
 replace hb4:=Ext.cell hx0 hb4
 replace hb5:=Ext.cell hx0 hb5
 replace hb6:=Ext.cell hx0 hb6
 replace hb7:=Ext.cell hx0 hb7
 clear hW0 hbr hbt hbo hRt
 go_upto_region 3 with fail
 refine qbd (fun w'=>Ext W0 w') (by kernel_rfl) (qae _) ?_
 refine gS (i:=0) (some 13) (v:=?_) rfl rfl (by kernel_rfl) (fun _ _ _ h=>h) (by rfl) (fun w hS=>?_) ?_
 rotate_left
 ·(try go_simp)
  refine ⟨?_,hS⟩
  with_reducible rfl
 simp only [Act.put,zA,zB,zC]
 refine gS (i:=1) (some 14) (v:=?_) rfl rfl (by kernel_rfl) (fun _ _ _ h=>h) (by rfl) (fun w hS=>?_) ?_
 rotate_left
 ·have e0:=Ext.cell hS hb0;have e1:=Ext.cell hS hb1;have e2:=Ext.cell hS hb2;have e3:=Ext.cell hS hb3;have e4:=Ext.cell hS hb4;have e5:=Ext.cell hS hb5;have e6:=Ext.cell hS hb6;have e7:=Ext.cell hS hb7
  go_simp
  refine ⟨?_,hS⟩
  with_reducible rfl
 simp only [Act.put,zA,zB,zC]
 refine gS (i:=2) (some 15) (v:=?_) rfl rfl (by kernel_rfl) (fun _ _ _ h=>h) (by rfl) (fun w hS=>?_) ?_
 rotate_left
 ·(try go_simp)
  refine ⟨?_,hS⟩
  with_reducible rfl
 simp only [Act.put,zA,zB,zC]
 refine gS (i:=3) (some 16) (v:=?_) rfl rfl (by kernel_rfl) (fun _ _ _ h=>h) (by rfl) (fun w hS=>?_) ?_
 rotate_left
 ·have e0:=Ext.cell hS dt0;have e1:=Ext.cell hS dt1;have e2:=Ext.cell hS dt2;have e3:=Ext.cell hS dt3;have e4:=Ext.cell hS dt4;have e5:=Ext.cell hS dt5;have e6:=Ext.cell hS dt6;have e7:=Ext.cell hS dt7;have e8:=Ext.cell hS dt8;have e9:=Ext.cell hS dt9;have e10:=Ext.cell hS dt10;have e11:=Ext.cell hS dt11
  go_simp
  refine ⟨?_,hS⟩
  with_reducible rfl
 simp only [Act.put,zA,zB,zC]
 refine gS (i:=4) (some 17) (v:=?_) rfl rfl (by kernel_rfl) (fun _ _ _ h=>h) (by rfl) (fun w hS=>?_) ?_
 rotate_left
 ·go_simp
  change Calls _ _ _ _ _
  refine Calls.mono (hsum _ (hx0.trans hS)) ?_
  rintro e w' ⟨rfl,hx⟩
  refine ⟨?_,hS.trans hx⟩
  with_reducible rfl
 simp only [Act.put,zA,zB,zC]
 refine gS (i:=5) (some 18) (v:=?_) rfl rfl (by kernel_rfl) (fun _ _ _ h=>h) (by rfl) (fun w hS=>?_) ?_
 rotate_left
 ·(try go_simp)
  refine ⟨?_,hS⟩
  with_reducible rfl
 simp only [Act.put,zA,zB,zC]
 refine qbv (by kernel_rfl) fun W1 hS1=>?_
 replace hRr:=hRr.ext hS1
 replace hRo:=hRo.ext hS1
 have hx1:=hx0.trans hS1
 clear hsum hb0 hb1 hb2 hb3 hb4 hb5 hb6 hb7 dt0 dt1 dt2 dt3 dt4 dt5 dt6 dt7 dt8 dt9 dt10 dt11 hS1
 go_wp2
 go_loopw [18] (fun t18 wr=>∃ (i : Nat) (d : List UInt8),i ≤ 8∧t18 = .int .i64 i∧d.length = 64∧Row wr bo 26 (d.map bv)∧Hid (d.take (8 * i) = (digest64 T).take (8 * i))∧Keep [bo] W1 wr) (fun t18 _=>8 - (intOf t18).toNat)
 case atStart=>exact ⟨0,List.replicate 64 0,by decide,rfl,by simp,hRo,Lib.hid rfl,Keep.refl _ _⟩
 case round =>
  obtain ⟨i,d,hi,rfl,hdl,hRo,htk,hK⟩:=hrel
  by_cases hi8 : i < 8
  ·have hi8' : (i : Int) < 8:=by omega
   have bi : 0 ≤ (i : Int)∧(i : Int) < 8:=by omega
   have hlT : T.l.length = 8:=rfl
   have hxi:=fun w=>idx64 T i w hi8
   obtain ⟨x,hx⟩ : ∃ x,x = T.l.getD i 0:=⟨_,rfl⟩
   rw [← hx] at hxi
   have hxx:=Lib.hid hx
   clear hx hlT
   obtain ⟨W2,hW2⟩ : ∃ W2,W2 = wr:=⟨_,rfl⟩
   subst hW2
   go_wp2
   go_loopw [22] (fun t22 wr=>∃ (j : Nat) (d : List UInt8),j ≤ 8∧t22 = .int .i64 j∧d.length = 64∧Row wr bo 26 (d.map bv)∧Hid (d.take (8 * i + j) = (digest64 T).take (8 * i + j))∧Keep [bo] W2 wr) (fun t22 _=>8 - (intOf t22).toNat)
   case atStart=>exact ⟨0,d,by decide,rfl,hdl,hRo,htk,Keep.refl _ _⟩
   case round =>
    obtain ⟨j,d,hj,rfl,hdl,hRo,htk,hK2⟩:=hrel
    by_cases hjS : j < 8
    ·have hjS' : (j : Int) < 8:=by omega
     obtain ⟨k,hk⟩ : ∃ k,k = 8 * i + j:=⟨_,rfl⟩
     obtain ⟨e,he⟩ : ∃ e,e = 56 - 8 * j:=⟨_,rfl⟩
     have k1 : 8 * (i : Int) + (j : Int) = (k : Int):=by omega
     have k2 : 0 ≤ (k : Int)∧(k : Int) < 64:=by omega
     have e1 : 56 - 8 * (j : Int) = (e : Int):=by omega
     have e2 : 0 ≤ (e : Int):=by omega
     have e3 : (e : Int) ≤ 64:=by omega
     have e3' : (e : Int) ≤ 64:=by omega
     have e4:=qdx x e (by omega)
     have ck:=hRo.cell (i:=k) (by rw [List.length_map];omega)
     rw [List.getElem_map] at ck
     have fk:=hRo.fro k
     have hat : ql0 T k = (x >>> UInt64.ofNat e).toUInt8:=by
      unfold ql0
      rw [show k / 8 = i from by omega,← hxx.out,show 8 * (7 - k % 8) = e from by omega]
     have hdl2 : (digest64 T).length = 64:=by simp [digest64]
     have hnx : Hid ((d.set k (x >>> UInt64.ofNat e).toUInt8).take (8 * i + (j + 1)) = (digest64 T).take (8 * i + (j + 1))):=Lib.hid (by
      rw [show 8 * i + (j + 1) = k + 1 from by omega]
      have h0:=htk.out
      rw [← hk] at h0
      rw [List.take_succ_eq_append_getElem (by rw [List.length_set];omega),List.take_succ_eq_append_getElem (show k < (digest64 T).length by omega),List.getElem_set_self]
      congr 1
      ·rw [List.take_set_of_le (Nat.le_refl _)];exact h0
      ·simp only [digest64,List.getElem_map,List.getElem_range]
       rw [hat])
     generalize d[k]'_ = dk at *
     clear hat htk hk he
     go_wp2
     refine ⟨⟨j + 1,d.set k (x >>> UInt64.ofNat e).toUInt8,by omega,by go_num,by rw [List.length_set];exact hdl,?_,hnx,?_⟩,by simp [intOf];omega⟩
     ·rw [List.map_set]
      exact hRo.set k _
     ·exact hK2.same (Keep.setCell _ ⟨bo,k,none⟩ _)
    ·obtain rfl : j = 8:=by omega
     clear hxi
     go_wp2
     exact ⟨⟨i + 1,d,by omega,by go_num,hdl,hRo,htk,hK.same hK2⟩,by simp [intOf];omega⟩
  ·obtain rfl : i = 8:=by omega
   have hdd : d = digest64 T:=by
    have h0:=htk.out
    rw [List.take_of_length_le (by omega),List.take_of_length_le (by simp [digest64])] at h0
    exact h0
   have hRr2:=hRr.keep hK (by simpa using nro)
   clear htk
   have hRow1 : wr.heap[bo]? = some (.cells (d.map bv).toArray 26 (0,0)):=hRo
   have hRow2 : wr.heap[br]? = some (.cells ((List.replicate 64 (0 : UInt8)).map bv).toArray 26 (0,0)):=hRr2
   have hs1 : ((d.map bv).toArray).size = 64:=by simp [hdl]
   have hs2 : (((List.replicate 64 (0 : UInt8)).map bv).toArray).size = 64:=by simp
   have hall : ((d.map bv).toArray).all (·.oneCell') = true:=Array.all_eq_true_iff_forall_mem.2 (fun v hv=>qef d v (by simpa using hv))
   generalize hcells : (d.map bv).toArray = cells at *
   generalize ((List.replicate 64 (0 : UInt8)).map bv).toArray = olds at *
   go_wp2_with (first
    | (refine wpList_load_row rfl 26 (.tmp 4) rfl bo rfl 26 cells (0,0) _ hRow1 Tryz.underlying26 rfl (by rw [hs1];exact qi1) ?_)
    | (refine wpList_store_row rfl 26 (.tmp 2) (.tmp 38) rfl br cells rfl rfl 26 olds hRow2 (by rw [hs1];exact qi1) (by rw [hs2,hs1]) hall ?_))
   refine bodyPost_ret (results_cell_row (p:=2) (ty:=26) rfl _ _ br 26 cells (0,0) _ ?_ (setRow_heap wr br olds cells 26 (0,0) hRow2) Tryz.underlying26 rfl (by rw [hs1];exact qi1)) rfl ⟨?_,?_⟩
   ·rfl
   ·rw [← hcells,hdd]
   ·exact Below.trans hx1 (below_setRow (hK.below (fun x hx=>by simp at hx;omega) hx1.size) hbrB cells)
end Go.Proofs.YtgeihelkkhjjaaaGreatDoor
end
section
namespace Go.Cv.Hash
open Go.RowKit
def Tabs (w : World) : Prop:=Tab32 w∧Tab64 w
theorem Tabs.ext {w w' : World} (h : Tabs w) (hx : Ext w w') : Tabs w':=⟨h.1.ext hx,h.2.ext hx⟩
end Go.Cv.Hash
namespace Go.Proofs.YtgeihelkkhjjaaaGreatDoor
open Go.RowKit Go.Cv Go.Cv.Hash Go.Cv.Dig
theorem qmx (A : Option Addr) (n c : Nat) (l : List UInt8) (B : Option Addr) (m d : Nat) (k : List UInt8) (w : World) (hl : l.length = n) (hr : Rd w A (l.map bv)) (hk : k.length = m) (hr2 : Rd w B (k.map bv)) (bnd : n ≤ 5000000) :
  Calls Tryz.prog 8 #[.slice A n c,.slice B m d] w fun e w'=>e = .returned (.bool (decide (l = k)))∧Ext w w':=by
 by_cases hnm : n = m
 ·subst hnm
  have HN:=Lib.hid hl
  have HM:=Lib.hid hk
  obtain ⟨r,hres⟩ : ∃ r,r = decide (l = k):=⟨_,rfl⟩
  rw [← hres]
  have hrx:=Lib.hid hres
  clear hl hk hres
  go_enter Tryz.func8,Tryz.ntmps8
  go_wp2
  go_loopw [5] (fun t wr=>∃ i : Nat,i ≤ n∧t = .int .i64 i∧Hid (l.take i = k.take i)∧Ext w wr) (fun t _=>n - (intOf t).toNat)
  case atStart=>exact ⟨0,by omega,rfl,Lib.hid rfl,Ext.refl _⟩
  case round =>
   obtain ⟨i,hin,rfl,htk,hE⟩:=hrel
   by_cases h1 : i < n
   ·have h1' : (i : Int) < (n : Int):=by omega
    have hil : i < l.length:=by rw [HN.out];exact h1
    have hik : i < k.length:=by rw [HM.out];exact h1
    obtain ⟨ad,rfl,hcell⟩:=(hr.ext hE).at_ (k:=i) (by rw [List.length_map];exact hil)
    obtain ⟨bd,rfl,hcell2⟩:=(hr2.ext hE).at_ (k:=i) (by rw [List.length_map];exact hik)
    rw [List.getElem_map] at hcell hcell2
    have ht1 : l.take (i + 1) = l.take i ++ [l[i]]:=List.take_succ_eq_append_getElem hil
    have ht2 : k.take (i + 1) = k.take i ++ [k[i]]:=List.take_succ_eq_append_getElem hik
    have hne : l[i] ≠ k[i]→l ≠ k:=fun h e=>h (by subst e;rfl)
    have hht1:=Lib.hid ht1
    have hht2:=Lib.hid ht2
    clear ht1 ht2
    generalize l[i]'hil = x at *
    generalize k[i]'hik = y at *
    obtain ⟨xg,rfl⟩:=qah hE
    clear hE
    by_cases hxy : x = y
    ·subst hxy
     have htk2 : Hid (l.take (i + 1) = k.take (i + 1)):=Lib.hid (by rw [hht1.out,hht2.out,htk.out])
     clear hne hht1 hht2 htk
     go_wp2
     go_quiet (fail)
     go_wp2
     exact ⟨⟨i + 1,by omega,by go_num,htk2,(by (repeat (first | exact qad _ _ | exact Ext.refl _ | refine Ext.drewN ?_ _ | refine Ext.trans ?_ (qae _))))⟩,by simp [intOf];omega⟩
    ·have hb : (x != y) = true:=by simpa using hxy
     have hf : Hid (r = false):=Lib.hid (by rw [hrx.out];exact decide_eq_false (hne hxy))
     clear hne hht1 hht2 htk
     go_wp2
     go_quiet (fail)
     go_wp2
     rw [hf.out]
     go_ret
     exact ⟨rfl,(by (repeat (first | exact qad _ _ | exact Ext.refl _ | refine Ext.drewN ?_ _ | refine Ext.trans ?_ (qae _))))⟩
   ·obtain rfl : i = n:=by omega
    have hf : Hid (r = true):=Lib.hid (by
     rw [hrx.out]
     have:=htk.out
     rw [List.take_of_length_le (by rw [HN.out];omega),List.take_of_length_le (by rw [HM.out];omega)] at this
     exact decide_eq_true this)
    clear htk
    go_wp2
    rw [hf.out]
    go_ret
    exact ⟨rfl,hE⟩
 ·have hne : ¬ l = k:=fun e=>hnm (by rw [← hl,← hk,e])
  rw [decide_eq_false hne]
  have hnm' : ¬ (n : Int) = (m : Int):=by omega
  clear hl hk hne hr hr2
  go_enter Tryz.func8,Tryz.ntmps8
  go_wp2
  go_ret
  exact ⟨rfl,Ext.refl _⟩


def Oth (b : Nat) (w w' : World) : Prop:=∀ k cs T fr,k ≠ b→T ≠ 5→w.heap[k]? = some (.cells cs T fr)→w'.heap[k]? = some (.cells cs T fr)
theorem Oth.row {b : Nat} {w w' : World} {k : Nat} {T : TypeId} {cs : List Value} (h : Oth b w w') (hr : Row w k T cs) (hk : k ≠ b) (hT : T ≠ 5) : Row w' k T cs:=h k _ T _ hk hT hr
end Go.Proofs.YtgeihelkkhjjaaaGreatDoor
end
section
namespace Go.Proofs.YtgeihelkkhjjaaaGreatDoor
open Go.RowKit Go.Cv Go.Cv.Hash Go.Cv.Dig
def Out (w : World) (v : Value) (l : List UInt8) : Prop:=∃ A n c,v = .slice A n c∧l.length = n∧n ≤ c∧Rd w A (l.map bv)
theorem Out.ext {w w' : World} {v : Value} {l : List UInt8} (h : Out w v l) (hx : Ext w w') : Out w' v l:=by
 obtain ⟨A,n,c,e,hl,hc,hr⟩:=h
 exact ⟨A,n,c,e,hl,hc,hr.ext hx⟩
end Go.Proofs.YtgeihelkkhjjaaaGreatDoor
end
section
namespace Go.Cv.Hash
open Go.RowKit
def lenB (n i : Nat) : UInt8:=if i = 0 then ((u64 (n : Int) % 32).toUInt8 * 8) else if i ≤ 8 then (u64 (n : Int) >>> UInt64.ofNat (8 * i - 3)).toUInt8 else 0
def qe7 (n m k : Nat) : List UInt8:=(List.range k).map fun j=>lenB n (m - 1 - j)
theorem qoj (n m k : Nat) : qe7 n m (k + 1) = qe7 n m k ++ [lenB n (m - 1 - k)]:=by simp [qe7,List.range_succ]
theorem qqu (n m k : Nat) : (qe7 n m k).length = k:=by simp [qe7]
def qhh (S Z : Nat) (l : List UInt8) : List UInt8:=(l ++ [128] ++ List.replicate Z 0) ++ qe7 l.length (2 * S) (2 * S)
theorem qq9 (S Z : Nat) (l : List UInt8) : (qhh S Z l).length = l.length + 1 + Z + 2 * S:=by simp [qhh,qqu];omega
def qd9 (full : List UInt8) (p : Nat) : Nat→UInt64
 | 0=>0
 | j + 1=>256 * qd9 full p j + (full.getD (p + j) 0).toUInt64
def wordsAt (full : List UInt8) (S at' k : Nat) : List UInt64:=(List.range k).map fun i=>qd9 full (at' + S * i) S
theorem qj6 (full : List UInt8) (S at' k : Nat) : wordsAt full S at' (k + 1) = wordsAt full S at' k ++ [qd9 full (at' + S * k) S]:=by simp [wordsAt,List.range_succ]
def qj9 (D : Kd) (S : Nat) (full : List UInt8) : Nat→Nat→St64→St64
 | 0,_,s=>s
 | f + 1,at',s=>qj9 D S full f (at' + 16 * S) (qfa D (wordsAt full S at' 16) s)
def qp7 (t : St64) (S k : Nat) : UInt8:=((t.l.getD (k / S) 0) >>> UInt64.ofNat (8 * (S - 1 - k % S))).toUInt8
def qh7 (t : St64) (S k : Nat) : List UInt8:=(List.range k).map (qp7 t S)
theorem qoe (t : St64) (S k : Nat) : qh7 t S (k + 1) = qh7 t S k ++ [qp7 t S k]:=by simp [qh7,List.range_succ]
def digG (D : Kd) (S Z F : Nat) (beg : St64) (l : List UInt8) : List UInt8:=qh7 (qj9 D S (qhh S Z l) F 0 beg) S (8 * S)
end Go.Cv.Hash
end
section
namespace Go.Proofs.YtgeihelkkhjjaaaGreatDoor
open Go.RowKit Go.Cv Go.Cv.Hash Go.Cv.Dig
end Go.Proofs.YtgeihelkkhjjaaaGreatDoor
end
section
namespace Go.Proofs.YtgeihelkkhjjaaaGreatDoor
open Go.RowKit Go.Cv Go.Cv.Hash Go.Cv.Dig
theorem qpc (D : Kd) (s0 s1 s2 s3 s4 s5 K : Nat) (beg : St64) (A : Option Addr) (n c : Nat) (l : List UInt8) (w : World) (ok : D.Ok) (hDb : D.b = 64) (hkl : D.ks.length = K) (hK : 16 ≤ K) (hK2 : K ≤ 200)
  (r0 : Row w s0 3 [.int .i64 (D.p0 : Int),.int .i64 (D.p1 : Int),.int .i64 (D.p2 : Int)]) (r1 : Row w s1 3 [.int .i64 (D.q0 : Int),.int .i64 (D.q1 : Int),.int .i64 (D.q2 : Int)]) (r2 : Row w s2 3 [.int .i64 (D.r0 : Int),.int .i64 (D.r1 : Int),.int .i64 (D.r2 : Int)]) (r3 : Row w s3 3 [.int .i64 (D.t0 : Int),.int .i64 (D.t1 : Int),.int .i64 (D.t2 : Int)]) (r4 : Row w s4 73 (D.ks.map wv64)) (r5 : Row w s5 73 (beg.l.map wv64))
  (hl : l.length = n) (hnc : n ≤ c) (hr : Rd w A (l.map bv)) (bnd : n ≤ 5000000) :
  Calls Tryz.prog 53 #[.agg #[.int .i64 64,.slice (some ⟨s0,0,none⟩) 3 3,.slice (some ⟨s1,0,none⟩) 3 3,.slice (some ⟨s2,0,none⟩) 3 3,.slice (some ⟨s3,0,none⟩) 3 3,.int .u64 (n64 D.M),.slice (some ⟨s4,0,none⟩) K K,.slice (some ⟨s5,0,none⟩) 8 8],.slice A n c] w fun e w'=>∃ v,e = .returned v∧w'.ownsRow w.heap.size 5 1 v 64 ((digG D 8 (zc64 n) ((qhh 8 (zc64 n) l).length / 128) beg l).map bv)∧Ext w w':=by
 have HL:=Lib.hid hl
 have h128 : ∀ w : World,Rd (w.alloc (.cells #[.int .u8 128] 5)) (some ⟨w.heap.size,0,none⟩) (([128] : List UInt8).map bv):=fun w=>qpy w [.int .u8 128] _
 have h000 : ∀ w : World,Rd (w.alloc (.cells #[.int .u8 0] 5)) (some ⟨w.heap.size,0,none⟩) (([0] : List UInt8).map bv):=fun w=>qpy w [.int .u8 0] _
 have hone : ∀ (w : World) (x : UInt8),Rd (w.alloc (.cells #[.int .u8 (n8 x)] 5)) (some ⟨w.heap.size,0,none⟩) ([x].map bv):=fun w x=>qpy w [bv x] _
 have hblk : ∀ (B bh hc cx : Nat) (s : St64) (hsp : List Value) (A : Option Addr) (ws : List UInt64) (w2 : World),Ext w w2→s0 < B→s1 < B→s2 < B→s3 < B→s4 < B→B ≤ w2.heap.size→Row w2 bh 73 (s.l.map wv64 ++ hsp)→bh < B→s4 ≠ bh→w2.ownsRow B 73 1 (.slice A 16 cx) 16 (ws.map wv64) →
   Calls Tryz.prog 83 #[.agg #[.int .i64 64,.slice (some ⟨s0,0,none⟩) 3 3,.slice (some ⟨s1,0,none⟩) 3 3,.slice (some ⟨s2,0,none⟩) 3 3,.slice (some ⟨s3,0,none⟩) 3 3,.int .u64 (n64 D.M),.slice (some ⟨s4,0,none⟩) K K,.slice (some ⟨s5,0,none⟩) 8 8],.slice (some ⟨bh,0,none⟩) 8 hc,.slice A 16 cx] w2 fun e w'=>e = .returned (.tuple #[])∧Row w' bh 73 ((qfa D ws s).l.map wv64 ++ hsp)∧Under B [bh] w2 w':=fun B bh hc cx s hsp A ws w2 hx l0 l1 l2 l3 l4 hB hH lH n4 ho=>by
  have:=block_g D s0 s1 s2 s3 s4 s5 K B bh hc cx s hsp A ws w2 ok hkl hK hK2 (r0.ext hx) (r1.ext hx) (r2.ext hx) (r3.ext hx) (r4.ext hx) l0 l1 l2 l3 l4 hB hH lH n4 ho
  rw [hDb] at this
  exact this
 have l0:=r0.lt
 have l1:=r1.lt
 have l2:=r2.lt
 have l3:=r3.lt
 have l4:=r4.lt
 obtain ⟨FU,hFU⟩ : ∃ FU,FU = qhh 8 (zc64 n) l:=⟨_,rfl⟩
 obtain ⟨F,hF⟩ : ∃ F,F = FU.length / 128:=⟨_,rfl⟩
 obtain ⟨TG,hTG⟩ : ∃ TG,TG = qj9 D 8 FU F 0 beg:=⟨_,rfl⟩
 have hdg : digG D 8 (zc64 n) ((qhh 8 (zc64 n) l).length / 128) beg l = qh7 TG 8 (8 * 8):=by rw [hTG,hF,hFU];rfl
 rw [hdg]
 have hFl:=qq9 8 (zc64 n) l
 rw [← hFU] at hFl
 have hFlx:=Lib.hid hFl
 have hFUx:=Lib.hid hFU
 have hFx:=Lib.hid hF
 have hTGx:=Lib.hid hTG
 clear hdg hFU hF hTG hFl hkl hDb
 go_enter Tryz.func53,Tryz.ntmps53
 go_upto_region 1 with fail
 obtain ⟨W0,hW0⟩ : ∃ W0,W0 = w.alloc (.cells #[.int .i64 64,.slice (some ⟨s0,0,none⟩) 3 3,.slice (some ⟨s1,0,none⟩) 3 3,.slice (some ⟨s2,0,none⟩) 3 3,.slice (some ⟨s3,0,none⟩) 3 3,.int .u64 (n64 D.M),.slice (some ⟨s4,0,none⟩) K K,.slice (some ⟨s5,0,none⟩) 8 8] 81):=⟨_,rfl⟩
 obtain ⟨bk,hbk⟩ : ∃ bk,bk = w.heap.size:=⟨_,rfl⟩
 rw [← hW0,← hbk]
 have hx0 : Ext w W0:=by rw [hW0];exact qaa _ _
 have hR : Row W0 bk 81 [.int .i64 64,.slice (some ⟨s0,0,none⟩) 3 3,.slice (some ⟨s1,0,none⟩) 3 3,.slice (some ⟨s2,0,none⟩) 3 3,.slice (some ⟨s3,0,none⟩) 3 3,.int .u64 (n64 D.M),.slice (some ⟨s4,0,none⟩) K K,.slice (some ⟨s5,0,none⟩) 8 8]:=by rw [hW0,hbk];exact Row.alloc w [.int .i64 64,.slice (some ⟨s0,0,none⟩) 3 3,.slice (some ⟨s1,0,none⟩) 3 3,.slice (some ⟨s2,0,none⟩) 3 3,.slice (some ⟨s3,0,none⟩) 3 3,.int .u64 (n64 D.M),.slice (some ⟨s4,0,none⟩) K K,.slice (some ⟨s5,0,none⟩) 8 8] _
 have hbkB : w.heap.size ≤ bk:=by omega
 have c0 : W0.cell? ⟨bk,0,none⟩ = some (.int .i64 64):=(hR.cell (i:=0) (by simp)).trans rfl
 have hr0:=hr.ext hx0
 have hq5 : (.int .i64 64 : Value) = .int .i64 (64 : Int):=rfl
 clear hW0 hbk hr hq5
 go_wp2_with (first
  | (at_builtin;refine qc8 rfl (.tmp 22) (.tmp 23) 23 5 rfl qbj rfl A n c l rfl hl hr0 (by omega) ?_;intro A3 c3 w3 ho3 hc3 hm3 hr3 hx3)
  | (at_builtin;refine qbh rfl (.tmp 25) (.tmp 26) 23 5 rfl qbj W0.heap.size _ n l rfl (qbc ho3 (qaa _ _)) (some _) 1 1 [128] rfl rfl (h128 w3) (by omega) (Nat.le_trans hx3.size (qaa _ _).size) ?_;intro A4 c4 w4 ho4 hc4 hm4 hr4 hE4;have hx4:=hE4 W0 (hx3.trans (qaa _ _)) (Nat.le_refl _);clear hE4))
 obtain ⟨gb,hgb⟩ : ∃ g,g = W0.heap.size:=⟨_,rfl⟩
 rw [← hgb] at ho4
 have hgx:=Lib.hid hgb
 have hbg : w.heap.size ≤ gb:=by have:=hx0.size;omega
 have hbkg : bk < gb:=by have:=hR.lt;omega
 obtain ⟨Z,hZ⟩ : ∃ Z,Z = zc64 n:=⟨_,rfl⟩
 have hZB : Z < 128:=by rw [hZ];unfold zc64;omega
 have hZ0 : (n + 1 + Z + 16) % 128 = 0:=by rw [hZ];unfold zc64;omega
 have hZ1 : ∀ j,j < Z→¬ (n + 1 + j + 16) % 128 = 0:=fun j hj=>by rw [hZ] at hj;unfold zc64 at hj;omega
 rw [← hZ] at hFUx hFlx
 clear hZ hgb ho3 hr3 hr4
 go_loopw [6] (fun t6 wr=>∃ (j q : Nat),Hid (q = n + 1 + j)∧j ≤ Z∧wr.ownsRow gb 5 1 t6 q ((l ++ [128] ++ List.replicate j 0).map bv)∧Ext W0 wr) (fun t6 _=>match t6 with | .slice _ k _=>n + 1 + Z - k | _=>0)
 case atStart=>exact ⟨0,n + 1,Lib.hid rfl,Nat.zero_le _,by simpa using ho4,hx4⟩
 case round =>
  obtain ⟨j,q,hqx,hjZ,ho,hE⟩:=hrel
  have hq:=hqx.out
  obtain ⟨C,cc,rfl,hqc,hcm,hrd,-⟩:=qcn ho
  have hszE : gb ≤ wr.heap.size:=by have:=hE.size;have:=hgx.out;omega
  by_cases hjz : j < Z
  ·have hne:=hZ1 j hjz
   have m1 : (((q : Int) + 16) % 128 != 0) = true:=by
    rw [bne_iff_ne];omega
   have m2 : ¬ ((q : Int) + 16) % 128 = 0:=by omega
   have m3 : ¬ ((q : Int) + 16).tmod 128 = 0:=by rw [Int.tmod_eq_emod_of_nonneg (by omega)];omega
   have hrep : Hid (l ++ [128] ++ List.replicate (j + 1) 0 = (l ++ [128] ++ List.replicate j 0) ++ [0]):=Lib.hid (by rw [List.replicate_succ'];simp)
   have hq2 : Hid (q + 1 = n + 1 + (j + 1)):=Lib.hid (by omega)
   have hqb : q ≤ 5000200:=by omega
   have hqm : n + 1 + Z - (q + 1) < n + 1 + Z - q:=by omega
   clear hne hrd hq
   generalize l ++ [128] ++ List.replicate j 0 = lj at *
   go_wp2_with (at_builtin;refine qbh rfl (.tmp 37) (.tmp 38) 23 5 rfl qbj gb _ q lj rfl (qbc ho (qaa _ _)) (some _) 1 1 [0] rfl rfl (h000 wr) (by omega) (by simp;omega) ?_;intro A5 c5 w5 ho5 hc5 hm5 hr5 hE5;have hx5:=hE5 W0 (hE.trans (qaa _ _)) (Nat.le_of_eq hgx.out.symm);clear hE5)
   exact ⟨⟨j + 1,q + 1,hq2,by omega,by rw [hrep.out];exact ho5,hx5⟩,by simpa using hqm⟩
  ·obtain rfl : Z = j:=by omega
   have m1 : (((q : Int) + 16) % 128 != 0) = false:=by
    rw [bne_eq_false_iff_eq];omega
   have m2 : ((q : Int) + 16) % 128 = 0:=by omega
   have m3 : ((q : Int) + 16).tmod 128 = 0:=by rw [Int.tmod_eq_emod_of_nonneg (by omega)];omega
   have hqb : q ≤ 5000200:=by omega
   have hqB : Hid ((q + 16) % 128 = 0):=Lib.hid (by omega)
   have hllj : (l ++ [128] ++ List.replicate Z 0).length = q:=by rw [hq];simp;omega
   have hllx:=Lib.hid hllj
   have hFUl : Hid (FU = (l ++ [128] ++ List.replicate Z 0) ++ qe7 n 16 16):=Lib.hid (by rw [hFUx.out];unfold qhh;rw [HL.out])
   generalize l ++ [128] ++ List.replicate Z 0 = lj at *
   clear hZ1 hq hZ0 hllj hrd
   go_wp2
   clear m1 m2 m3
   go_loopw [6,8] (fun t6 t8 wr=>∃ (x : Int) (k q' : Nat),t8 = .int .i64 x∧-1 ≤ x∧x < 16∧Hid (x + 1 + k = 16)∧Hid (q' = q + k)∧wr.ownsRow gb 5 1 t6 q' ((lj ++ qe7 n 16 k).map bv)∧Ext W0 wr) (fun _ t8 _=>(intOf t8 + 1).toNat)
   case atStart=>exact ⟨15,0,q,rfl,by omega,by omega,Lib.hid rfl,Lib.hid rfl,by simpa [qe7] using ho,hE⟩
   case round =>
    clear ho hE hszE
    obtain ⟨x,k,q',rfl,hx1,hx2,hxk,hqk,ho,hE⟩:=hrel
    have hszE : gb ≤ wr.heap.size:=by have:=hE.size;have:=hgx.out;omega
    have hqk':=hqk.out
    have hxk':=hxk.out
    by_cases hx0' : 0 ≤ x
    ·obtain ⟨i,rfl⟩ : ∃ i : Nat,x = (i : Int):=⟨x.toNat,by omega⟩
     obtain ⟨C,cc,rfl,hqc,hcm,hrd,-⟩:=qcn ho
     have hqb2 : q' ≤ 5000220:=by omega
     have i0 : (0 : Int) ≤ (i : Int):=hx0'
     have hv1 : IntKind.i64.wrap ((i : Int) - 1) = (i : Int) - 1:=IntWalk.i64_in _ (by omega)
     have hnext : Hid (qe7 n 16 (k + 1) = qe7 n 16 k ++ [lenB n i]):=Lib.hid (by rw [qoj,show 16 - 1 - k = i from by omega])
     have hq2 : Hid (q' + 1 = q + (k + 1)):=Lib.hid (by omega)
     have hx3 : Hid ((i : Int) - 1 + 1 + ((k + 1 : Nat) : Int) = 16):=Lib.hid (by push_cast;omega)
     clear hrd hqk' hxk'
     have hfin : ∀ (A' : Option Addr) (c' : Nat) (w' : World),w'.ownsRow gb 5 1 (.slice A' (q' + 1) c') (q' + 1) (((lj ++ qe7 n 16 k) ++ [lenB n i]).map bv)→w'.ownsRow gb 5 1 (.slice A' (q' + 1) c') (q' + 1) ((lj ++ qe7 n 16 (k + 1)).map bv):=fun A' c' w' h=>by
      rw [hnext.out,← List.append_assoc];exact h
     clear hnext
     generalize lj ++ qe7 n 16 k = lk at *
     by_cases hi0 : i = 0
     ·subst hi0
      have hlb : lenB n 0 = ((Go.Cv.u64 (n : Int) % 32).toUInt8 * 8):=rfl
      rw [hlb] at hfin
      clear hlb
      go_wp2_with (at_builtin;refine qbh rfl (.tmp 66) (.tmp 68) 23 5 rfl qbj gb _ q' lk rfl (qbc ho (qaa _ _)) (some _) 1 1 [((Go.Cv.u64 (n : Int) % 32).toUInt8 * 8)] rfl rfl (hone wr _) (by omega) (by simp;omega) ?_;intro A5 c5 w5 ho5 hc5 hm5 hr5 hE5;have hx5:=hE5 W0 (hE.trans (qaa _ _)) (Nat.le_of_eq hgx.out.symm);clear hE5)
      exact ⟨⟨-1,k + 1,q' + 1,by go_num,by omega,by omega,by simpa using hx3,hq2,hfin _ _ _ ho5,hx5⟩,by simp [intOf]⟩
     ·have hi0' : ¬ ((i : Int) = 0):=by omega
      by_cases hi8 : i ≤ 8
      ·have hi8' : (i : Int) ≤ 8:=by omega
       obtain ⟨e,he⟩ : ∃ e,e = 8 * i - 3:=⟨_,rfl⟩
       have e1 : 8 * (i : Int) - 3 = (e : Int):=by omega
       have e2 : 0 ≤ (e : Int):=by omega
       have e3 : (e : Int) ≤ 64:=by omega
       have e4:=qdx (Go.Cv.u64 (n : Int)) e (by omega)
       have hlb : lenB n i = (Go.Cv.u64 (n : Int) >>> UInt64.ofNat e).toUInt8:=by rw [he];unfold lenB;rw [if_neg hi0,if_pos hi8]
       rw [hlb] at hfin
       clear hlb he
       go_wp2_with (at_builtin;refine qbh rfl (.tmp 66) (.tmp 68) 23 5 rfl qbj gb _ q' lk rfl (qbc ho (qaa _ _)) (some _) 1 1 [(Go.Cv.u64 (n : Int) >>> UInt64.ofNat e).toUInt8] rfl rfl (hone wr _) (by omega) (by simp;omega) ?_;intro A5 c5 w5 ho5 hc5 hm5 hr5 hE5;have hx5:=hE5 W0 (hE.trans (qaa _ _)) (Nat.le_of_eq hgx.out.symm);clear hE5)
       exact ⟨⟨(i : Int) - 1,k + 1,q' + 1,by go_num,by omega,by omega,hx3,hq2,hfin _ _ _ ho5,hx5⟩,by simp [intOf];try omega⟩
      ·have hi8' : ¬ ((i : Int) ≤ 8):=by omega
       have hlb : lenB n i = 0:=by unfold lenB;rw [if_neg hi0,if_neg hi8]
       rw [hlb] at hfin
       clear hlb
       go_wp2_with (at_builtin;refine qbh rfl (.tmp 66) (.tmp 68) 23 5 rfl qbj gb _ q' lk rfl (qbc ho (qaa _ _)) (some _) 1 1 [0] rfl rfl (h000 wr) (by omega) (by simp;omega) ?_;intro A5 c5 w5 ho5 hc5 hm5 hr5 hE5;have hx5:=hE5 W0 (hE.trans (qaa _ _)) (Nat.le_of_eq hgx.out.symm);clear hE5)
       exact ⟨⟨(i : Int) - 1,k + 1,q' + 1,by go_num,by omega,by omega,hx3,hq2,hfin _ _ _ ho5,hx5⟩,by simp [intOf];try omega⟩
    ·obtain rfl : x = -1:=by omega
     obtain rfl : k = 16:=by omega
     have hFUk : Hid (lj ++ qe7 n 16 16 = FU):=Lib.hid hFUl.out.symm
     rw [hFUk.out] at ho
     obtain ⟨gf,fsp,rfl,hgf,hgm,hRf,hfl⟩:=qjq ho (by omega)
     rw [List.length_map] at hfl
     have hflx:=Lib.hid hfl
     have hqF : Hid (q' = 128 * F):=Lib.hid (by rw [hFx.out,hfl];have:=hqB.out;omega)
     have r5w:=((r5.ext hx0).ext hE)
     have l5:=r5.lt
     have c7 : wr.cell? ⟨bk,7,none⟩ = some (.slice (some ⟨s5,0,none⟩) 8 8):=((hR.ext hE).cell (i:=7) (by simp)).trans rfl
     have hrd5 : Rd wr (some ⟨s5,0,none⟩) (beg.l.map wv64):=Rd.ofRow64 r5w 0
     have hq20 : q' ≤ 5000220:=by omega
     clear hqk' hxk' hFUk hfl ho r5w
     go_wp2_with (at_builtin;refine qeo rfl (.tmp 70) (.tmp 72) 71 73 8 rfl qmq rfl (some ⟨s5,0,none⟩) 8 8 (beg.l.map wv64) rfl rfl hrd5 (qkm _) (by unfold maxLen;omega) (by omega) ?_;intro A6 c6 w7 ho7 hc6 hm6 hr6 hx7;obtain ⟨bh,hsp,ev,hbh,hhm,hRh,-⟩:=qjq ho7 (by decide);injection ev with eA _ ec;subst eA ec)
     have hE7 : Ext W0 w7:=hE.trans hx7
     have hRf7:=hRf.ext hx7
     have hlgf:=hRf.lt
     have nfh : gf ≠ bh:=by omega
     have nkh : bk ≠ bh:=by omega
     have hbhg : gb ≤ bh:=by omega
     have hx07 : Ext w w7:=hx0.trans hE7
     have hlh:=hRh.lt
     clear hrd5 c7 hr6 ho7 hE hx7 hRf hhm
     go_loopw [11] (fun t11 wr=>∃ (f at' : Nat) (s : St64),t11 = .int .i64 at'∧Hid (at' + 128 * f = q')∧Row wr bh 73 (s.l.map wv64 ++ hsp)∧Hid (qj9 D 8 FU f at' s = TG)∧Keep [bh] w7 wr) (fun t11 _=>q' - (intOf t11).toNat)
     case atStart=>exact ⟨F,0,beg,rfl,Lib.hid (by rw [Nat.zero_add];exact hqF.out.symm),hRh,Lib.hid hTGx.out.symm,Keep.refl _ _⟩
     case round =>
      clear hRh
      obtain ⟨f,at',s,rfl,hat,hRh,hsm,hK⟩:=hrel
      have hat':=hat.out
      have hsz:=hK.size
      rcases f with _ | f
      ·have hs : s = TG:=hsm.out
       subst hs
       have hatq : at' = q':=by omega
       subst hatq
       clear hat hat' hsm hK2
       have hxw : Ext w wr:=Below.trans hx07 (hK.below (fun x hx=>by simp at hx;omega) hx07.size)
       go_wp2
       obtain ⟨W8,hW8⟩ : ∃ W8,W8 = wr:=⟨_,rfl⟩
       subst hW8
       go_loopw [16,17] (fun t16 t17 wr=>∃ (i q2 : Nat),i ≤ 8∧t17 = .int .i64 i∧Hid (q2 = 8 * i)∧wr.ownsRow W8.heap.size 5 1 t16 q2 ((qh7 s 8 q2).map bv)∧Ext W8 wr) (fun _ t17 _=>8 - (intOf t17).toNat)
       case atStart=>exact ⟨0,0,by decide,rfl,Lib.hid rfl,World.ownsRow_nil _ _ _ _,Ext.refl _⟩
       case round =>
        obtain ⟨i,q2,hi,rfl,hq2,ho,hx8⟩:=hrel
        by_cases hi8 : i < 8
        ·have hi8' : (i : Int) < 8:=by omega
         have bi : 0 ≤ (i : Int)∧(i : Int) < 8:=by omega
         go_wp2
         go_loopw [16,18] (fun t16 t18 wr=>∃ (x : Int) (m q3 : Nat),t18 = .int .i64 x∧-1 ≤ x∧x < 8∧Hid (x + 1 + m = 8)∧Hid (q3 = 8 * i + m)∧wr.ownsRow W8.heap.size 5 1 t16 q3 ((qh7 s 8 q3).map bv)∧Ext W8 wr) (fun _ t18 _=>(intOf t18 + 1).toNat)
         case atStart=>exact ⟨7,0,q2,rfl,by omega,by omega,Lib.hid rfl,Lib.hid (by rw [hq2.out];rfl),ho,hx8⟩
         case round =>
          clear ho hx8
          obtain ⟨x,m,q3,rfl,hx1,hx2,hxm,hq3,ho,hx8⟩:=hrel
          have hxm':=hxm.out
          have hq3':=hq3.out
          have hs8:=hx8.size
          by_cases hx0' : 0 ≤ x
          ·obtain ⟨j,rfl⟩ : ∃ j : Nat,x = (j : Int):=⟨x.toNat,by omega⟩
           obtain ⟨C,cc,rfl,hqc,hcm,hrd,-⟩:=qcn ho
           have i0 : (0 : Int) ≤ (j : Int):=hx0'
           have hv1 : IntKind.i64.wrap ((j : Int) - 1) = (j : Int) - 1:=IntWalk.i64_in _ (by omega)
           obtain ⟨e,he⟩ : ∃ e,e = 8 * j:=⟨_,rfl⟩
           have e1 : 8 * (j : Int) = (e : Int):=by omega
           have e2 : 0 ≤ (e : Int):=by omega
           have e3 : (e : Int) ≤ 64:=by omega
           have ci : wr.cell? ⟨bh,i,none⟩ = some (.int .u64 (n64 (s.l.getD i 0))):=Row.at64 (hRh.ext hx8) (by show i < 8;omega)
           have e4:=qdx (s.l.getD i 0) e (by omega)
           have hob : Hid (qh7 s 8 (q3 + 1) = qh7 s 8 q3 ++ [(s.l.getD i 0 >>> UInt64.ofNat e).toUInt8]):=Lib.hid (by
            rw [qoe]
            unfold qp7
            rw [show q3 / 8 = i from by omega,show 8 * (8 - 1 - q3 % 8) = e from by omega])
           have hq4 : Hid (q3 + 1 = 8 * i + (m + 1)):=Lib.hid (by omega)
           have hx3 : Hid ((j : Int) - 1 + 1 + ((m + 1 : Nat) : Int) = 8):=Lib.hid (by push_cast;omega)
           have hqb4 : q3 < 64:=by omega
           generalize s.l.getD i 0 = y at *
           clear hrd hq3' hxm' he
           generalize qh7 s 8 q3 = lq at *
           go_wp2_with (at_builtin;refine qbh rfl (.tmp 123) (.tmp 132) 23 5 rfl qbj W8.heap.size _ q3 lq rfl (qbc ho (qaa _ _)) (some _) 1 1 [(y >>> UInt64.ofNat e).toUInt8] rfl rfl (hone wr _) (by omega) (by simp;omega) ?_;intro A5 c5 w5 ho5 hc5 hm5 hr5 hE5;have hx5:=hE5 W8 (hx8.trans (qaa _ _)) (Nat.le_refl _);clear hE5)
           exact ⟨⟨(j : Int) - 1,m + 1,q3 + 1,by go_num,by omega,by omega,hx3,hq4,by rw [hob.out];exact ho5,hx5⟩,by simp [intOf];try omega⟩
          ·obtain rfl : x = -1:=by omega
           have hq5 : Hid (q3 = 8 * (i + 1)):=Lib.hid (by omega)
           clear hq3' hxm'
           go_wp2
           exact ⟨⟨i + 1,q3,by omega,by go_num,hq5,ho,hx8⟩,by simp [intOf];omega⟩
        ·obtain rfl : i = 8:=by omega
         obtain rfl : q2 = 64:=hq2.out
         obtain ⟨C,cc,rfl,hqc,hcm,hrd,-⟩:=qcn ho
         go_wp2
         go_ret
         exact ⟨_,rfl,qjr ho hxw.size,hxw.trans hx8⟩
      ·have hat2 : at' + 128 ≤ q':=by omega
       have hatI : (at' : Int) < (q' : Int):=by omega
       have hsm2 : qj9 D 8 FU f (at' + 16 * 8) (qfa D (wordsAt FU 8 at' 16) s) = TG:=hsm.out
       have hsmx:=Lib.hid hsm2
       have hatx : Hid (at' + 128 + 128 * f = q'):=Lib.hid (by omega)
       have hRfr:=hRf7.keep hK (by simpa using nfh)
       have hRkr:=(hR.ext hE7).keep hK (by simpa using nkh)
       have hlbh:=hRh.lt
       have hxw : Ext w wr:=Below.trans hx07 (hK.below (fun x hx=>by simp at hx;omega) hx07.size)
       have hwsz:=hxw.size
       clear hsm hsm2 hat hat'
       go_wp2
       obtain ⟨W8,hW8⟩ : ∃ W8,W8 = wr:=⟨_,rfl⟩
       subst hW8
       go_loopw [12,13] (fun t12 t13 wr=>∃ i : Nat,i ≤ 16∧t13 = .int .i64 i∧wr.ownsRow W8.heap.size 73 1 t12 i ((wordsAt FU 8 at' i).map wv64)∧Ext W8 wr) (fun _ t13 _=>16 - (intOf t13).toNat)
       case atStart=>exact ⟨0,by decide,rfl,World.ownsRow_nil _ _ _ _,Ext.refl _⟩
       case round =>
        obtain ⟨i,hi,rfl,ho,hx8⟩:=hrel
        obtain ⟨C,cc,rfl,hqc,hcm,hrd,-⟩:=qcn ho
        by_cases hi16 : i < 16
        ·have hi16' : (i : Int) < 16:=by omega
         obtain ⟨lo,hlo⟩ : ∃ lo,lo = at' + 8 * i:=⟨_,rfl⟩
         have i1 : (at' : Int) + 8 * (i : Int) = (lo : Int):=by omega
         have hwd : Hid (wordsAt FU 8 at' (i + 1) = wordsAt FU 8 at' i ++ [qd9 FU lo 8]):=Lib.hid (by rw [qj6,hlo])
         have hlq : lo + 8 ≤ q':=by omega
         clear hrd hlo
         go_wp2
         obtain ⟨W9,hW9⟩ : ∃ W9,W9 = wr:=⟨_,rfl⟩
         subst hW9
         go_loopw [14,15] (fun t14 t15 wr=>∃ j : Nat,j ≤ 8∧t15 = .int .i64 j∧t14 = .int .u64 (n64 (qd9 FU lo j))∧Ext W9 wr) (fun _ t15 _=>8 - (intOf t15).toNat)
         case atStart=>exact ⟨0,by decide,rfl,rfl,Ext.refl _⟩
         case round =>
          obtain ⟨j,hj,rfl,rfl,hx9⟩:=hrel
          by_cases hjS : j < 8
          ·have hjS' : (j : Int) < 8:=by omega
           obtain ⟨p,hp⟩ : ∃ p,p = lo + j:=⟨_,rfl⟩
           have p1 : (lo : Int) + (j : Int) = (p : Int):=by omega
           have p2 : 0 ≤ (p : Int)∧(p : Int) < (q' : Int):=by omega
           have hfl:=hflx.out
           have cp : wr.cell? ⟨gf,p,none⟩ = some (.int .u8 (n8 (FU.getD p 0))):=by
            have h1:=((hRfr.ext hx8).ext hx9).cell (i:=p) (by simp;omega)
            rw [List.getElem_append_left (by rw [List.length_map];omega),List.getElem_map] at h1
            rw [h1,List.getD_eq_getElem?_getD,List.getElem?_eq_getElem (by omega)]
            rfl
           have hnx : Hid (qd9 FU lo (j + 1) = 256 * qd9 FU lo j + (FU.getD p 0).toUInt64):=Lib.hid (by rw [hp];rfl)
           clear hfl hp
           generalize FU.getD p 0 = b at *
           generalize qd9 FU lo j = y at *
           go_wp2
           exact ⟨⟨j + 1,by omega,by go_num,by rw [hnx.out],hx9⟩,by simp [intOf];omega⟩
          ·obtain rfl : j = 8:=by omega
           have hx89 : Ext W8 wr:=hx8.trans hx9
           have ho9:=qbc ho hx9
           have h89:=hx89.size
           generalize qd9 FU lo 8 = y at *
           go_wp2_with (at_builtin;refine qbn rfl (.tmp 105) (.tmp 107) 71 73 8 rfl qmq W8.heap.size _ i _ rfl (qbc ho9 (qaa _ _)) _ 1 1 [wv64 y] rfl rfl (qbk _ _ _) (qp9 _ _) (by unfold maxLen;omega) (by omega) (Nat.le_trans h89 (qaa wr (.cells #[wv64 y] 73)).size) ?_;intro A2 c2 w2 ho2 hc2 hm2 hr2 hE2 hg2;have hx2:=hE2 W8 (hx89.trans (qaa _ _)) (Nat.le_refl _);clear hE2)
           exact ⟨⟨i + 1,by omega,by go_num,by rw [hwd.out,List.map_append];exact ho2,hx2⟩,by simp [intOf];omega⟩
        ·obtain rfl : i = 16:=by omega
         have hbk2:=hblk W8.heap.size bh (8 + hsp.length) cc s hsp C (wordsAt FU 8 at' 16) wr (hxw.trans hx8) (by omega) (by omega) (by omega) (by omega) (by omega) hx8.size (hRh.ext hx8) hlbh (by omega) ho
         have hRkk:=hRkr.ext hx8
         have c0 : wr.cell? ⟨bk,0,none⟩ = some (.int .i64 64):=(hRkk.cell (i:=0) (by simp)).trans rfl
         have c1 : wr.cell? ⟨bk,1,none⟩ = some (.slice (some ⟨s0,0,none⟩) 3 3):=(hRkk.cell (i:=1) (by simp)).trans rfl
         have c2 : wr.cell? ⟨bk,2,none⟩ = some (.slice (some ⟨s1,0,none⟩) 3 3):=(hRkk.cell (i:=2) (by simp)).trans rfl
         have c3 : wr.cell? ⟨bk,3,none⟩ = some (.slice (some ⟨s2,0,none⟩) 3 3):=(hRkk.cell (i:=3) (by simp)).trans rfl
         have c4 : wr.cell? ⟨bk,4,none⟩ = some (.slice (some ⟨s3,0,none⟩) 3 3):=(hRkk.cell (i:=4) (by simp)).trans rfl
         have c5 : wr.cell? ⟨bk,5,none⟩ = some (.int .u64 (n64 D.M)):=(hRkk.cell (i:=5) (by simp)).trans rfl
         have c6 : wr.cell? ⟨bk,6,none⟩ = some (.slice (some ⟨s4,0,none⟩) K K):=(hRkk.cell (i:=6) (by simp)).trans rfl
         have c7 : wr.cell? ⟨bk,7,none⟩ = some (.slice (some ⟨s5,0,none⟩) 8 8):=(hRkk.cell (i:=7) (by simp)).trans rfl
         clear hrd
         go_wp2_with (go_at_call 83;with_reducible refine hbk2.mono ?_;rintro e w2 ⟨rfl,hRh2,hun⟩)
         refine ⟨⟨f,at' + 128,_,by go_num,hatx,hRh2,hsmx,?_⟩,by simp [intOf];omega⟩
         refine hK.trans (bs:=[bh]) (cs:=[bh]) ⟨hun.os.trans hx8.os,hun.tape.trans hx8.tape,hun.output.trans hx8.output,Nat.le_trans hx8.size hun.size,fun k hk hn=>(hun.keep k hk hn).trans (hx8.block k hk)⟩ fun x hx=>.inl hx
end Go.Proofs.YtgeihelkkhjjaaaGreatDoor
end
