/-
  hash.Sum512 walked.
-/
import Derived.Test.YtgeihelkkhjjaaaDoorHashE
import Derived.Laws.Tables
import Derived.Laws.CopyOwn
set_option linter.unusedSimpArgs false
set_option linter.unusedVariables false
namespace Go.Cv.Hash
open Go.RowKit
/-- The published numbers. -/
def K64 : List UInt64 := [4794697086780616226, 8158064640168781261, 13096744586834688815, 16840607885511220156, 4131703408338449720, 6480981068601479193, 10538285296894168987, 12329834152419229976, 15566598209576043074, 1334009975649890238, 2608012711638119052, 6128411473006802146, 8268148722764581231, 9286055187155687089, 11230858885718282805, 13951009754708518548, 16472876342353939154, 17275323862435702243, 1135362057144423861, 2597628984639134821, 3308224258029322869, 5365058923640841347, 6679025012923562964, 8573033837759648693, 10970295158949994411, 12119686244451234320, 12683024718118986047, 13788192230050041572, 14330467153632333762, 15395433587784984357, 489312712824947311, 1452737877330783856, 2861767655752347644, 3322285676063803686, 5560940570517711597, 5996557281743188959, 7280758554555802590, 8532644243296465576, 9350256976987008742, 10552545826968843579, 11727347734174303076, 12113106623233404929, 14000437183269869457, 14369950271660146224, 15101387698204529176, 15463397548674623760, 17586052441742319658, 1182934255886127544, 1847814050463011016, 2177327727835720531, 2830643537854262169, 3796741975233480872, 4115178125766777443, 5681478168544905931, 6601373596472566643, 7507060721942968483, 8399075790359081724, 8693463985226723168, 9568029438360202098, 10144078919501101548, 10430055236837252648, 11840083180663258601, 13761210420658862357, 14299343276471374635, 14566680578165727644, 15097957966210449927, 16922976911328602910, 17689382322260857208, 500013540394364858, 748580250866718886, 1242879168328830382, 1977374033974150939, 2944078676154940804, 3659926193048069267, 4368137639120453308, 4836135668995329356, 5532061633213252278, 6448918945643986474, 6902733635092675308, 7801388544844847127]
def B64 : St64 := ⟨7640891576956012808, 13503953896175478587, 4354685564936845355, 11912009170470909681, 5840696475078001361, 11170449401992604703, 2270897969802886507, 6620516959819538809⟩
/-- A digest, byte by byte. -/
def outAt64 (t : St64) (k : Nat) : UInt8 := ((t.l.getD (k / 8) 0) >>> UInt64.ofNat (8 * (7 - k % 8))).toUInt8
def digest64 (t : St64) : List UInt8 := (List.range 64).map (outAt64 t)
def hash64 (l : List UInt8) : List UInt8 := digest64 (sumB64 K64 ((full64 l).length / 128) (full64 l) B64)
/-- The two tables, as the program lays them. -/
def Tab64 (w : World) : Prop := Rd w (some ⟨1, 0, none⟩) (K64.map wv64) ∧ Rd w (some ⟨0, 0, none⟩) (B64.l.map wv64)
theorem Tab64.ext {w w' : World} (h : Tab64 w) (hx : Ext w w') : Tab64 w' := ⟨h.1.ext hx, h.2.ext hx⟩
end Go.Cv.Hash
namespace Go.Proofs.YtgeihelkkhjjaaaDoor
open Go.RowKit Go.Cv Go.Cv.Hash Go.Cv.Dig

theorem info64 : (Tryd.prog.info? 26).map (·.size) = some 64 := by kernel_rfl
theorem idx64 (T : St64) (i : Nat) (w : World) (h : i < 8) : (Instr.index 72 (.agg #[.int .u64 (n64 T.a), .int .u64 (n64 T.b), .int .u64 (n64 T.c), .int .u64 (n64 T.d), .int .u64 (n64 T.e), .int .u64 (n64 T.f), .int .u64 (n64 T.g), .int .u64 (n64 T.h)]) (.int .i64 (i : Int))).run Tryd.prog w = .ok (.int .u64 (n64 (T.l.getD i 0))) w := by
  rcases (by omega : i = 0 ∨ i = 1 ∨ i = 2 ∨ i = 3 ∨ i = 4 ∨ i = 5 ∨ i = 6 ∨ i = 7) with rfl | rfl | rfl | rfl | rfl | rfl | rfl | rfl
  all_goals kernel_rfl
set_option maxRecDepth 20000 in
set_option maxHeartbeats 8000000 in
theorem sum512_any (A : Option Addr) (n c : Nat) (l : List UInt8) (w : World) (hl : l.length = n) (hnc : n ≤ c) (hr : Rd w A (l.map bv)) (bnd : n ≤ 5000000) (hT : Tab64 w) :
    Calls Tryd.prog 23 #[.slice A n c] w fun e w' => e = .returned (.agg ((hash64 l).map bv).toArray) ∧ Ext w w' := by
  obtain ⟨T, hTT⟩ : ∃ T, T = sumB64 K64 ((full64 l).length / 128) (full64 l) B64 := ⟨_, rfl⟩
  have hh : hash64 l = digest64 T := by rw [hTT]; rfl
  rw [hh]
  have hTx := Lib.hid hTT
  clear hTT hh
  have hsum : ∀ w1, Ext w w1 → Calls Tryd.prog 35 #[.slice A n c, .int .i64 8, .agg #[.int .u64 (n64 B64.a), .int .u64 (n64 B64.b), .int .u64 (n64 B64.c), .int .u64 (n64 B64.d), .int .u64 (n64 B64.e), .int .u64 (n64 B64.f), .int .u64 (n64 B64.g), .int .u64 (n64 B64.h)], .slice (some ⟨1, 0, none⟩) 80 80, .agg #[.int .i64 1, .int .i64 8, .int .i64 7, .int .i64 19, .int .i64 61, .int .i64 6, .int .i64 28, .int .i64 34, .int .i64 39, .int .i64 14, .int .i64 18, .int .i64 41]] w1 fun e w' => e = .returned (.agg #[.int .u64 (n64 T.a), .int .u64 (n64 T.b), .int .u64 (n64 T.c), .int .u64 (n64 T.d), .int .u64 (n64 T.e), .int .u64 (n64 T.f), .int .u64 (n64 T.g), .int .u64 (n64 T.h)]) ∧ Ext w1 w' := fun w1 hx => by
    refine (sum_64 A n c l B64 ⟨1, 0, none⟩ 80 K64 w1 hl hnc (hr.ext hx) bnd rfl (hT.1.ext hx)).mono fun e w' h => ?_
    rw [← hTx.out] at h
    exact h
  have hb0 : w.cell? ⟨0, 0, none⟩ = some (.int .u64 (n64 B64.a)) := by
    obtain ⟨ad, e, hc⟩ := hT.2.at_ (k := 0) (by rw [List.length_map]; decide)
    injection e with e
    subst e
    exact hc
  have hb1 : w.cell? ⟨0, 1, none⟩ = some (.int .u64 (n64 B64.b)) := by
    obtain ⟨ad, e, hc⟩ := hT.2.at_ (k := 1) (by rw [List.length_map]; decide)
    injection e with e
    subst e
    exact hc
  have hb2 : w.cell? ⟨0, 2, none⟩ = some (.int .u64 (n64 B64.c)) := by
    obtain ⟨ad, e, hc⟩ := hT.2.at_ (k := 2) (by rw [List.length_map]; decide)
    injection e with e
    subst e
    exact hc
  have hb3 : w.cell? ⟨0, 3, none⟩ = some (.int .u64 (n64 B64.d)) := by
    obtain ⟨ad, e, hc⟩ := hT.2.at_ (k := 3) (by rw [List.length_map]; decide)
    injection e with e
    subst e
    exact hc
  have hb4 : w.cell? ⟨0, 4, none⟩ = some (.int .u64 (n64 B64.e)) := by
    obtain ⟨ad, e, hc⟩ := hT.2.at_ (k := 4) (by rw [List.length_map]; decide)
    injection e with e
    subst e
    exact hc
  have hb5 : w.cell? ⟨0, 5, none⟩ = some (.int .u64 (n64 B64.f)) := by
    obtain ⟨ad, e, hc⟩ := hT.2.at_ (k := 5) (by rw [List.length_map]; decide)
    injection e with e
    subst e
    exact hc
  have hb6 : w.cell? ⟨0, 6, none⟩ = some (.int .u64 (n64 B64.g)) := by
    obtain ⟨ad, e, hc⟩ := hT.2.at_ (k := 6) (by rw [List.length_map]; decide)
    injection e with e
    subst e
    exact hc
  have hb7 : w.cell? ⟨0, 7, none⟩ = some (.int .u64 (n64 B64.h)) := by
    obtain ⟨ad, e, hc⟩ := hT.2.at_ (k := 7) (by rw [List.length_map]; decide)
    injection e with e
    subst e
    exact hc
  go_enter Tryd.func23, Tryd.ntmps23
  go_wp2
  obtain ⟨W0, hW0⟩ : ∃ W0, W0 = ((w.alloc (.cells #[.int .u8 0, .int .u8 0, .int .u8 0, .int .u8 0, .int .u8 0, .int .u8 0, .int .u8 0, .int .u8 0, .int .u8 0, .int .u8 0, .int .u8 0, .int .u8 0, .int .u8 0, .int .u8 0, .int .u8 0, .int .u8 0, .int .u8 0, .int .u8 0, .int .u8 0, .int .u8 0, .int .u8 0, .int .u8 0, .int .u8 0, .int .u8 0, .int .u8 0, .int .u8 0, .int .u8 0, .int .u8 0, .int .u8 0, .int .u8 0, .int .u8 0, .int .u8 0, .int .u8 0, .int .u8 0, .int .u8 0, .int .u8 0, .int .u8 0, .int .u8 0, .int .u8 0, .int .u8 0, .int .u8 0, .int .u8 0, .int .u8 0, .int .u8 0, .int .u8 0, .int .u8 0, .int .u8 0, .int .u8 0, .int .u8 0, .int .u8 0, .int .u8 0, .int .u8 0, .int .u8 0, .int .u8 0, .int .u8 0, .int .u8 0, .int .u8 0, .int .u8 0, .int .u8 0, .int .u8 0, .int .u8 0, .int .u8 0, .int .u8 0, .int .u8 0] 26)).alloc (.cells #[.int .i64 1, .int .i64 8, .int .i64 7, .int .i64 19, .int .i64 61, .int .i64 6, .int .i64 28, .int .i64 34, .int .i64 39, .int .i64 14, .int .i64 18, .int .i64 41] 71)).alloc (.cells #[.int .u8 0, .int .u8 0, .int .u8 0, .int .u8 0, .int .u8 0, .int .u8 0, .int .u8 0, .int .u8 0, .int .u8 0, .int .u8 0, .int .u8 0, .int .u8 0, .int .u8 0, .int .u8 0, .int .u8 0, .int .u8 0, .int .u8 0, .int .u8 0, .int .u8 0, .int .u8 0, .int .u8 0, .int .u8 0, .int .u8 0, .int .u8 0, .int .u8 0, .int .u8 0, .int .u8 0, .int .u8 0, .int .u8 0, .int .u8 0, .int .u8 0, .int .u8 0, .int .u8 0, .int .u8 0, .int .u8 0, .int .u8 0, .int .u8 0, .int .u8 0, .int .u8 0, .int .u8 0, .int .u8 0, .int .u8 0, .int .u8 0, .int .u8 0, .int .u8 0, .int .u8 0, .int .u8 0, .int .u8 0, .int .u8 0, .int .u8 0, .int .u8 0, .int .u8 0, .int .u8 0, .int .u8 0, .int .u8 0, .int .u8 0, .int .u8 0, .int .u8 0, .int .u8 0, .int .u8 0, .int .u8 0, .int .u8 0, .int .u8 0, .int .u8 0] 26) := ⟨_, rfl⟩
  rw [← hW0]
  have hx0 : Ext w W0 := by rw [hW0]; exact (ext_alloc _ _).trans ((ext_alloc _ _).trans (ext_alloc _ _))
  obtain ⟨br, hbr⟩ : ∃ b, b = w.heap.size := ⟨_, rfl⟩
  obtain ⟨bt, hbt⟩ : ∃ b, b = w.heap.size + 1 := ⟨_, rfl⟩
  obtain ⟨bo, hbo⟩ : ∃ b, b = w.heap.size + 1 + 1 := ⟨_, rfl⟩
  have hRr : Row W0 br 26 ((List.replicate 64 (0 : UInt8)).map bv) := by
    rw [hW0, hbr]
    exact ((Row.alloc w ((List.replicate 64 (0 : UInt8)).map bv) _).ext (ext_alloc _ _)).ext (ext_alloc _ _)
  have hRt : Row W0 bt 71 [.int .i64 1, .int .i64 8, .int .i64 7, .int .i64 19, .int .i64 61, .int .i64 6, .int .i64 28, .int .i64 34, .int .i64 39, .int .i64 14, .int .i64 18, .int .i64 41] := by
    rw [hW0, hbt]
    have e : (w.alloc (.cells #[.int .u8 0, .int .u8 0, .int .u8 0, .int .u8 0, .int .u8 0, .int .u8 0, .int .u8 0, .int .u8 0, .int .u8 0, .int .u8 0, .int .u8 0, .int .u8 0, .int .u8 0, .int .u8 0, .int .u8 0, .int .u8 0, .int .u8 0, .int .u8 0, .int .u8 0, .int .u8 0, .int .u8 0, .int .u8 0, .int .u8 0, .int .u8 0, .int .u8 0, .int .u8 0, .int .u8 0, .int .u8 0, .int .u8 0, .int .u8 0, .int .u8 0, .int .u8 0, .int .u8 0, .int .u8 0, .int .u8 0, .int .u8 0, .int .u8 0, .int .u8 0, .int .u8 0, .int .u8 0, .int .u8 0, .int .u8 0, .int .u8 0, .int .u8 0, .int .u8 0, .int .u8 0, .int .u8 0, .int .u8 0, .int .u8 0, .int .u8 0, .int .u8 0, .int .u8 0, .int .u8 0, .int .u8 0, .int .u8 0, .int .u8 0, .int .u8 0, .int .u8 0, .int .u8 0, .int .u8 0, .int .u8 0, .int .u8 0, .int .u8 0, .int .u8 0] 26)).heap.size = w.heap.size + 1 := by show (w.heap.push _).size = _; rw [Array.size_push]
    rw [← e]
    exact (Row.alloc _ [.int .i64 1, .int .i64 8, .int .i64 7, .int .i64 19, .int .i64 61, .int .i64 6, .int .i64 28, .int .i64 34, .int .i64 39, .int .i64 14, .int .i64 18, .int .i64 41] _).ext (ext_alloc _ _)
  have hRo : Row W0 bo 26 ((List.replicate 64 (0 : UInt8)).map bv) := by
    rw [hW0, hbo]
    have e : ((w.alloc (.cells #[.int .u8 0, .int .u8 0, .int .u8 0, .int .u8 0, .int .u8 0, .int .u8 0, .int .u8 0, .int .u8 0, .int .u8 0, .int .u8 0, .int .u8 0, .int .u8 0, .int .u8 0, .int .u8 0, .int .u8 0, .int .u8 0, .int .u8 0, .int .u8 0, .int .u8 0, .int .u8 0, .int .u8 0, .int .u8 0, .int .u8 0, .int .u8 0, .int .u8 0, .int .u8 0, .int .u8 0, .int .u8 0, .int .u8 0, .int .u8 0, .int .u8 0, .int .u8 0, .int .u8 0, .int .u8 0, .int .u8 0, .int .u8 0, .int .u8 0, .int .u8 0, .int .u8 0, .int .u8 0, .int .u8 0, .int .u8 0, .int .u8 0, .int .u8 0, .int .u8 0, .int .u8 0, .int .u8 0, .int .u8 0, .int .u8 0, .int .u8 0, .int .u8 0, .int .u8 0, .int .u8 0, .int .u8 0, .int .u8 0, .int .u8 0, .int .u8 0, .int .u8 0, .int .u8 0, .int .u8 0, .int .u8 0, .int .u8 0, .int .u8 0, .int .u8 0] 26)).alloc (.cells #[.int .i64 1, .int .i64 8, .int .i64 7, .int .i64 19, .int .i64 61, .int .i64 6, .int .i64 28, .int .i64 34, .int .i64 39, .int .i64 14, .int .i64 18, .int .i64 41] 71)).heap.size = w.heap.size + 1 + 1 := by
      show ((w.heap.push _).push _).size = _
      rw [Array.size_push, Array.size_push]
    rw [← e]
    exact Row.alloc _ ((List.replicate 64 (0 : UInt8)).map bv) _
  rw [← hbo, ← hbt, ← hbr]
  have nro : br ≠ bo := by omega
  have hbrB : w.heap.size ≤ br := by omega
  have hboB : w.heap.size ≤ bo := by omega
  have dt0 : W0.cell? ⟨bt, 0, none⟩ = some (.int .i64 1) := (hRt.cell (i := 0) (by simp)).trans rfl
  have dt1 : W0.cell? ⟨bt, 1, none⟩ = some (.int .i64 8) := (hRt.cell (i := 1) (by simp)).trans rfl
  have dt2 : W0.cell? ⟨bt, 2, none⟩ = some (.int .i64 7) := (hRt.cell (i := 2) (by simp)).trans rfl
  have dt3 : W0.cell? ⟨bt, 3, none⟩ = some (.int .i64 19) := (hRt.cell (i := 3) (by simp)).trans rfl
  have dt4 : W0.cell? ⟨bt, 4, none⟩ = some (.int .i64 61) := (hRt.cell (i := 4) (by simp)).trans rfl
  have dt5 : W0.cell? ⟨bt, 5, none⟩ = some (.int .i64 6) := (hRt.cell (i := 5) (by simp)).trans rfl
  have dt6 : W0.cell? ⟨bt, 6, none⟩ = some (.int .i64 28) := (hRt.cell (i := 6) (by simp)).trans rfl
  have dt7 : W0.cell? ⟨bt, 7, none⟩ = some (.int .i64 34) := (hRt.cell (i := 7) (by simp)).trans rfl
  have dt8 : W0.cell? ⟨bt, 8, none⟩ = some (.int .i64 39) := (hRt.cell (i := 8) (by simp)).trans rfl
  have dt9 : W0.cell? ⟨bt, 9, none⟩ = some (.int .i64 14) := (hRt.cell (i := 9) (by simp)).trans rfl
  have dt10 : W0.cell? ⟨bt, 10, none⟩ = some (.int .i64 18) := (hRt.cell (i := 10) (by simp)).trans rfl
  have dt11 : W0.cell? ⟨bt, 11, none⟩ = some (.int .i64 41) := (hRt.cell (i := 11) (by simp)).trans rfl
  replace hb0 := Ext.cell hx0 hb0
  replace hb1 := Ext.cell hx0 hb1
  replace hb2 := Ext.cell hx0 hb2
  replace hb3 := Ext.cell hx0 hb3
  replace hb4 := Ext.cell hx0 hb4
  replace hb5 := Ext.cell hx0 hb5
  replace hb6 := Ext.cell hx0 hb6
  replace hb7 := Ext.cell hx0 hb7
  clear hW0 hbr hbt hbo hRt
  go_upto_region 3 with fail
  refine wp_region_sure (fun w' => Ext W0 w') (by kernel_rfl) (ext_drew _) ?_
  refine wpAnyS_go (i := 0) (some 13) (v := ?_) rfl rfl (by kernel_rfl) (by kernel_rfl) (by kernel_rfl) (fun _ _ _ h => h) (.inl ⟨by rfl, fun w hS => ?_⟩) ?_
  rotate_left
  · (try go_simp)
    refine ⟨?_, hS⟩
    with_reducible rfl
  simp only [Act.put, List.setIfInBounds_toArray, List.set_cons_zero, List.set_cons_succ]
  refine wpAnyS_go (i := 1) (some 14) (v := ?_) rfl rfl (by kernel_rfl) (by kernel_rfl) (by kernel_rfl) (fun _ _ _ h => h) (.inl ⟨by rfl, fun w hS => ?_⟩) ?_
  rotate_left
  · have e0 := Ext.cell hS hb0; have e1 := Ext.cell hS hb1; have e2 := Ext.cell hS hb2; have e3 := Ext.cell hS hb3; have e4 := Ext.cell hS hb4; have e5 := Ext.cell hS hb5; have e6 := Ext.cell hS hb6; have e7 := Ext.cell hS hb7
    go_simp
    refine ⟨?_, hS⟩
    with_reducible rfl
  simp only [Act.put, List.setIfInBounds_toArray, List.set_cons_zero, List.set_cons_succ]
  refine wpAnyS_go (i := 2) (some 15) (v := ?_) rfl rfl (by kernel_rfl) (by kernel_rfl) (by kernel_rfl) (fun _ _ _ h => h) (.inl ⟨by rfl, fun w hS => ?_⟩) ?_
  rotate_left
  · (try go_simp)
    refine ⟨?_, hS⟩
    with_reducible rfl
  simp only [Act.put, List.setIfInBounds_toArray, List.set_cons_zero, List.set_cons_succ]
  refine wpAnyS_go (i := 3) (some 16) (v := ?_) rfl rfl (by kernel_rfl) (by kernel_rfl) (by kernel_rfl) (fun _ _ _ h => h) (.inl ⟨by rfl, fun w hS => ?_⟩) ?_
  rotate_left
  · have e0 := Ext.cell hS dt0; have e1 := Ext.cell hS dt1; have e2 := Ext.cell hS dt2; have e3 := Ext.cell hS dt3; have e4 := Ext.cell hS dt4; have e5 := Ext.cell hS dt5; have e6 := Ext.cell hS dt6; have e7 := Ext.cell hS dt7; have e8 := Ext.cell hS dt8; have e9 := Ext.cell hS dt9; have e10 := Ext.cell hS dt10; have e11 := Ext.cell hS dt11
    go_simp
    refine ⟨?_, hS⟩
    with_reducible rfl
  simp only [Act.put, List.setIfInBounds_toArray, List.set_cons_zero, List.set_cons_succ]
  refine wpAnyS_go (i := 4) (some 17) (v := ?_) rfl rfl (by kernel_rfl) (by kernel_rfl) (by kernel_rfl) (fun _ _ _ h => h) (.inl ⟨by rfl, fun w hS => ?_⟩) ?_
  rotate_left
  · go_simp
    change Calls _ _ _ _ _
    refine Calls.mono (hsum _ (hx0.trans hS)) ?_
    rintro e w' ⟨rfl, hx⟩
    refine ⟨?_, hS.trans hx⟩
    with_reducible rfl
  simp only [Act.put, List.setIfInBounds_toArray, List.set_cons_zero, List.set_cons_succ]
  refine wpAnyS_go (i := 5) (some 18) (v := ?_) rfl rfl (by kernel_rfl) (by kernel_rfl) (by kernel_rfl) (fun _ _ _ h => h) (.inl ⟨by rfl, fun w hS => ?_⟩) ?_
  rotate_left
  · (try go_simp)
    refine ⟨?_, hS⟩
    with_reducible rfl
  simp only [Act.put, List.setIfInBounds_toArray, List.set_cons_zero, List.set_cons_succ]
  refine wpAnyS_done (by kernel_rfl) fun W1 hS1 => ?_
  replace hRr := hRr.ext hS1
  replace hRo := hRo.ext hS1
  have hx1 := hx0.trans hS1
  clear hsum hb0 hb1 hb2 hb3 hb4 hb5 hb6 hb7 dt0 dt1 dt2 dt3 dt4 dt5 dt6 dt7 dt8 dt9 dt10 dt11 hS1
  go_wp2
  go_loopw [18] (fun t18 wr => ∃ (i : Nat) (d : List UInt8), i ≤ 8 ∧ t18 = .int .i64 i ∧ d.length = 64 ∧ Row wr bo 26 (d.map bv) ∧ Hid (d.take (8 * i) = (digest64 T).take (8 * i)) ∧ Keep [bo] W1 wr) (fun t18 _ => 8 - (intOf t18).toNat)
  case atStart => exact ⟨0, List.replicate 64 0, by decide, rfl, by simp, hRo, Lib.hid rfl, Keep.refl _ _⟩
  case round =>
    obtain ⟨i, d, hi, rfl, hdl, hRo, htk, hK⟩ := hrel
    by_cases hi8 : i < 8
    · have hi8' : (i : Int) < 8 := by omega
      have bi : 0 ≤ (i : Int) ∧ (i : Int) < 8 := by omega
      have hlT : T.l.length = 8 := rfl
      have hxi := fun w => idx64 T i w hi8
      obtain ⟨x, hx⟩ : ∃ x, x = T.l.getD i 0 := ⟨_, rfl⟩
      rw [← hx] at hxi
      have hxx := Lib.hid hx
      clear hx hlT
      obtain ⟨W2, hW2⟩ : ∃ W2, W2 = wr := ⟨_, rfl⟩
      subst hW2
      go_wp2
      go_loopw [22] (fun t22 wr => ∃ (j : Nat) (d : List UInt8), j ≤ 8 ∧ t22 = .int .i64 j ∧ d.length = 64 ∧ Row wr bo 26 (d.map bv) ∧ Hid (d.take (8 * i + j) = (digest64 T).take (8 * i + j)) ∧ Keep [bo] W2 wr) (fun t22 _ => 8 - (intOf t22).toNat)
      case atStart => exact ⟨0, d, by decide, rfl, hdl, hRo, htk, Keep.refl _ _⟩
      case round =>
        obtain ⟨j, d, hj, rfl, hdl, hRo, htk, hK2⟩ := hrel
        by_cases hjS : j < 8
        · have hjS' : (j : Int) < 8 := by omega
          obtain ⟨k, hk⟩ : ∃ k, k = 8 * i + j := ⟨_, rfl⟩
          obtain ⟨e, he⟩ : ∃ e, e = 56 - 8 * j := ⟨_, rfl⟩
          have k1 : 8 * (i : Int) + (j : Int) = (k : Int) := by omega
          have k2 : 0 ≤ (k : Int) ∧ (k : Int) < 64 := by omega
          have e1 : 56 - 8 * (j : Int) = (e : Int) := by omega
          have e2 : 0 ≤ (e : Int) := by omega
          have e3 : (e : Int) ≤ 64 := by omega
          have e3' : (e : Int) ≤ 64 := by omega
          have e4 := shr_eq64 x e (by omega)
          have ck := hRo.cell (i := k) (by rw [List.length_map]; omega)
          rw [List.getElem_map] at ck
          have fk := hRo.fro k
          have hat : outAt64 T k = (x >>> UInt64.ofNat e).toUInt8 := by
            unfold outAt64
            rw [show k / 8 = i from by omega, ← hxx.out, show 8 * (7 - k % 8) = e from by omega]
          have hdl2 : (digest64 T).length = 64 := by simp [digest64]
          have hnx : Hid ((d.set k (x >>> UInt64.ofNat e).toUInt8).take (8 * i + (j + 1)) = (digest64 T).take (8 * i + (j + 1))) := Lib.hid (by
            rw [show 8 * i + (j + 1) = k + 1 from by omega]
            have h0 := htk.out
            rw [← hk] at h0
            rw [List.take_succ_eq_append_getElem (by rw [List.length_set]; omega), List.take_succ_eq_append_getElem (show k < (digest64 T).length by omega), List.getElem_set_self]
            congr 1
            · rw [List.take_set_of_le (Nat.le_refl _)]; exact h0
            · simp only [digest64, List.getElem_map, List.getElem_range]
              rw [hat])
          generalize d[k]'_ = dk at *
          clear hat htk hk he
          go_wp2
          refine ⟨⟨j + 1, d.set k (x >>> UInt64.ofNat e).toUInt8, by omega, by go_num, by rw [List.length_set]; exact hdl, ?_, hnx, ?_⟩, by simp [intOf]; omega⟩
          · rw [List.map_set]
            exact hRo.set k _
          · exact hK2.same (Keep.setCell _ ⟨bo, k, none⟩ _)
        · obtain rfl : j = 8 := by omega
          clear hxi
          go_wp2
          exact ⟨⟨i + 1, d, by omega, by go_num, hdl, hRo, htk, hK.same hK2⟩, by simp [intOf]; omega⟩
    · obtain rfl : i = 8 := by omega
      have hdd : d = digest64 T := by
        have h0 := htk.out
        rw [List.take_of_length_le (by omega), List.take_of_length_le (by simp [digest64])] at h0
        exact h0
      have hRr2 := hRr.keep hK (by simpa using nro)
      clear htk
      have hRow1 : wr.heap[bo]? = some (.cells (d.map bv).toArray 26 (0, 0)) := hRo
      have hRow2 : wr.heap[br]? = some (.cells ((List.replicate 64 (0 : UInt8)).map bv).toArray 26 (0, 0)) := hRr2
      have hs1 : ((d.map bv).toArray).size = 64 := by simp [hdl]
      have hs2 : (((List.replicate 64 (0 : UInt8)).map bv).toArray).size = 64 := by simp
      have hall : ((d.map bv).toArray).all (·.oneCell') = true := Array.all_eq_true_iff_forall_mem.2 (fun v hv => one_map_bv d v (by simpa using hv))
      generalize hcells : (d.map bv).toArray = cells at *
      generalize ((List.replicate 64 (0 : UInt8)).map bv).toArray = olds at *
      go_wp2_with (first
        | (refine wpList_load_row rfl 26 (.tmp 4) rfl bo rfl 26 cells (0, 0) _ hRow1 Tryd.underlying26 rfl (by rw [hs1]; exact info64) ?_)
        | (refine wpList_store_row rfl 26 (.tmp 2) (.tmp 38) rfl br cells rfl rfl 26 olds hRow2 (by rw [hs1]; exact info64) (by rw [hs2, hs1]) hall ?_))
      refine bodyPost_ret (results_cell_row (p := 2) (ty := 26) rfl _ _ br 26 cells (0, 0) _ ?_ (setRow_heap wr br olds cells 26 (0, 0) hRow2) Tryd.underlying26 rfl (by rw [hs1]; exact info64)) rfl ⟨?_, ?_⟩
      · rfl
      · rw [← hcells, hdd]
      · exact Below.trans hx1 (below_setRow (hK.below (fun x hx => by simp at hx; omega) hx1.size) hbrB cells)
end Go.Proofs.YtgeihelkkhjjaaaDoor
