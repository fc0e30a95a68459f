/-
  hash.Sum256 walked.
-/
import Derived.Test.YtnlphndfnnmdaaaDoorHashD
import Derived.Laws.Tables
import Derived.Laws.CopyOwn
set_option linter.unusedSimpArgs false
set_option linter.unusedVariables false
namespace Go.Cv.Hash
open Go.RowKit
/-- The published numbers. -/
def K32 : List UInt32 := [1116352408, 1899447441, 3049323471, 3921009573, 961987163, 1508970993, 2453635748, 2870763221, 3624381080, 310598401, 607225278, 1426881987, 1925078388, 2162078206, 2614888103, 3248222580, 3835390401, 4022224774, 264347078, 604807628, 770255983, 1249150122, 1555081692, 1996064986, 2554220882, 2821834349, 2952996808, 3210313671, 3336571891, 3584528711, 113926993, 338241895, 666307205, 773529912, 1294757372, 1396182291, 1695183700, 1986661051, 2177026350, 2456956037, 2730485921, 2820302411, 3259730800, 3345764771, 3516065817, 3600352804, 4094571909, 275423344, 430227734, 506948616, 659060556, 883997877, 958139571, 1322822218, 1537002063, 1747873779, 1955562222, 2024104815, 2227730452, 2361852424, 2428436474, 2756734187, 3204031479, 3329325298]
def B32 : St32 := ⟨1779033703, 3144134277, 1013904242, 2773480762, 1359893119, 2600822924, 528734635, 1541459225⟩
/-- A digest, byte by byte. -/
def outAt32 (t : St32) (k : Nat) : UInt8 := ((t.l.getD (k / 4) 0) >>> UInt32.ofNat (8 * (3 - k % 4))).toUInt8
def digest32 (t : St32) : List UInt8 := (List.range 32).map (outAt32 t)
def hash32 (l : List UInt8) : List UInt8 := digest32 (sumB32 K32 ((full32 l).length / 64) (full32 l) B32)
/-- The two tables, as the program lays them. -/
def Tab32 (w : World) : Prop := Rd w (some ⟨1, 0, none⟩) (K32.map wv32) ∧ Rd w (some ⟨0, 0, none⟩) (B32.l.map wv32)
theorem Tab32.ext {w w' : World} (h : Tab32 w) (hx : Ext w w') : Tab32 w' := ⟨h.1.ext hx, h.2.ext hx⟩
end Go.Cv.Hash
namespace Go.Proofs.YtnlphndfnnmdaaaDoor
open Go.RowKit Go.Cv Go.Cv.Hash Go.Cv.Dig

theorem info32 : (Tryd.prog.info? 24).map (·.size) = some 32 := by kernel_rfl
theorem idx32 (T : St32) (i : Nat) (w : World) (h : i < 8) : (Instr.index 42 (.agg #[.int .u32 (n32 T.a), .int .u32 (n32 T.b), .int .u32 (n32 T.c), .int .u32 (n32 T.d), .int .u32 (n32 T.e), .int .u32 (n32 T.f), .int .u32 (n32 T.g), .int .u32 (n32 T.h)]) (.int .i64 (i : Int))).run Tryd.prog w = .ok (.int .u32 (n32 (T.l.getD i 0))) w := by
  rcases (by omega : i = 0 ∨ i = 1 ∨ i = 2 ∨ i = 3 ∨ i = 4 ∨ i = 5 ∨ i = 6 ∨ i = 7) with rfl | rfl | rfl | rfl | rfl | rfl | rfl | rfl
  all_goals kernel_rfl
set_option maxRecDepth 20000 in
set_option maxHeartbeats 8000000 in
theorem sum256_any (A : Option Addr) (n c : Nat) (l : List UInt8) (w : World) (hl : l.length = n) (hnc : n ≤ c) (hr : Rd w A (l.map bv)) (bnd : n ≤ 5000000) (hT : Tab32 w) :
    Calls Tryd.prog 7 #[.slice A n c] w fun e w' => e = .returned (.agg ((hash32 l).map bv).toArray) ∧ Ext w w' := by
  obtain ⟨T, hTT⟩ : ∃ T, T = sumB32 K32 ((full32 l).length / 64) (full32 l) B32 := ⟨_, rfl⟩
  have hh : hash32 l = digest32 T := by rw [hTT]; rfl
  rw [hh]
  have hTx := Lib.hid hTT
  clear hTT hh
  have hsum : ∀ w1, Ext w w1 → Calls Tryd.prog 15 #[.slice A n c, .int .i64 4, .agg #[.int .u32 (n32 B32.a), .int .u32 (n32 B32.b), .int .u32 (n32 B32.c), .int .u32 (n32 B32.d), .int .u32 (n32 B32.e), .int .u32 (n32 B32.f), .int .u32 (n32 B32.g), .int .u32 (n32 B32.h)], .slice (some ⟨1, 0, none⟩) 64 64, .agg #[.int .i64 7, .int .i64 18, .int .i64 3, .int .i64 17, .int .i64 19, .int .i64 10, .int .i64 2, .int .i64 13, .int .i64 22, .int .i64 6, .int .i64 11, .int .i64 25]] w1 fun e w' => e = .returned (.agg #[.int .u32 (n32 T.a), .int .u32 (n32 T.b), .int .u32 (n32 T.c), .int .u32 (n32 T.d), .int .u32 (n32 T.e), .int .u32 (n32 T.f), .int .u32 (n32 T.g), .int .u32 (n32 T.h)]) ∧ Ext w1 w' := fun w1 hx => by
    refine (sum_32 A n c l B32 ⟨1, 0, none⟩ 64 K32 w1 hl hnc (hr.ext hx) bnd rfl (hT.1.ext hx)).mono fun e w' h => ?_
    rw [← hTx.out] at h
    exact h
  have hb0 : w.cell? ⟨0, 0, none⟩ = some (.int .u32 (n32 B32.a)) := by
    obtain ⟨ad, e, hc⟩ := hT.2.at_ (k := 0) (by rw [List.length_map]; decide)
    injection e with e
    subst e
    exact hc
  have hb1 : w.cell? ⟨0, 1, none⟩ = some (.int .u32 (n32 B32.b)) := by
    obtain ⟨ad, e, hc⟩ := hT.2.at_ (k := 1) (by rw [List.length_map]; decide)
    injection e with e
    subst e
    exact hc
  have hb2 : w.cell? ⟨0, 2, none⟩ = some (.int .u32 (n32 B32.c)) := by
    obtain ⟨ad, e, hc⟩ := hT.2.at_ (k := 2) (by rw [List.length_map]; decide)
    injection e with e
    subst e
    exact hc
  have hb3 : w.cell? ⟨0, 3, none⟩ = some (.int .u32 (n32 B32.d)) := by
    obtain ⟨ad, e, hc⟩ := hT.2.at_ (k := 3) (by rw [List.length_map]; decide)
    injection e with e
    subst e
    exact hc
  have hb4 : w.cell? ⟨0, 4, none⟩ = some (.int .u32 (n32 B32.e)) := by
    obtain ⟨ad, e, hc⟩ := hT.2.at_ (k := 4) (by rw [List.length_map]; decide)
    injection e with e
    subst e
    exact hc
  have hb5 : w.cell? ⟨0, 5, none⟩ = some (.int .u32 (n32 B32.f)) := by
    obtain ⟨ad, e, hc⟩ := hT.2.at_ (k := 5) (by rw [List.length_map]; decide)
    injection e with e
    subst e
    exact hc
  have hb6 : w.cell? ⟨0, 6, none⟩ = some (.int .u32 (n32 B32.g)) := by
    obtain ⟨ad, e, hc⟩ := hT.2.at_ (k := 6) (by rw [List.length_map]; decide)
    injection e with e
    subst e
    exact hc
  have hb7 : w.cell? ⟨0, 7, none⟩ = some (.int .u32 (n32 B32.h)) := by
    obtain ⟨ad, e, hc⟩ := hT.2.at_ (k := 7) (by rw [List.length_map]; decide)
    injection e with e
    subst e
    exact hc
  go_enter Tryd.func7, Tryd.ntmps7
  go_wp2
  obtain ⟨W0, hW0⟩ : ∃ W0, W0 = ((w.alloc (.cells #[.int .u8 0, .int .u8 0, .int .u8 0, .int .u8 0, .int .u8 0, .int .u8 0, .int .u8 0, .int .u8 0, .int .u8 0, .int .u8 0, .int .u8 0, .int .u8 0, .int .u8 0, .int .u8 0, .int .u8 0, .int .u8 0, .int .u8 0, .int .u8 0, .int .u8 0, .int .u8 0, .int .u8 0, .int .u8 0, .int .u8 0, .int .u8 0, .int .u8 0, .int .u8 0, .int .u8 0, .int .u8 0, .int .u8 0, .int .u8 0, .int .u8 0, .int .u8 0] 24)).alloc (.cells #[.int .i64 7, .int .i64 18, .int .i64 3, .int .i64 17, .int .i64 19, .int .i64 10, .int .i64 2, .int .i64 13, .int .i64 22, .int .i64 6, .int .i64 11, .int .i64 25] 40)).alloc (.cells #[.int .u8 0, .int .u8 0, .int .u8 0, .int .u8 0, .int .u8 0, .int .u8 0, .int .u8 0, .int .u8 0, .int .u8 0, .int .u8 0, .int .u8 0, .int .u8 0, .int .u8 0, .int .u8 0, .int .u8 0, .int .u8 0, .int .u8 0, .int .u8 0, .int .u8 0, .int .u8 0, .int .u8 0, .int .u8 0, .int .u8 0, .int .u8 0, .int .u8 0, .int .u8 0, .int .u8 0, .int .u8 0, .int .u8 0, .int .u8 0, .int .u8 0, .int .u8 0] 24) := ⟨_, rfl⟩
  rw [← hW0]
  have hx0 : Ext w W0 := by rw [hW0]; exact (ext_alloc _ _).trans ((ext_alloc _ _).trans (ext_alloc _ _))
  obtain ⟨br, hbr⟩ : ∃ b, b = w.heap.size := ⟨_, rfl⟩
  obtain ⟨bt, hbt⟩ : ∃ b, b = w.heap.size + 1 := ⟨_, rfl⟩
  obtain ⟨bo, hbo⟩ : ∃ b, b = w.heap.size + 1 + 1 := ⟨_, rfl⟩
  have hRr : Row W0 br 24 ((List.replicate 32 (0 : UInt8)).map bv) := by
    rw [hW0, hbr]
    exact ((Row.alloc w ((List.replicate 32 (0 : UInt8)).map bv) _).ext (ext_alloc _ _)).ext (ext_alloc _ _)
  have hRt : Row W0 bt 40 [.int .i64 7, .int .i64 18, .int .i64 3, .int .i64 17, .int .i64 19, .int .i64 10, .int .i64 2, .int .i64 13, .int .i64 22, .int .i64 6, .int .i64 11, .int .i64 25] := by
    rw [hW0, hbt]
    have e : (w.alloc (.cells #[.int .u8 0, .int .u8 0, .int .u8 0, .int .u8 0, .int .u8 0, .int .u8 0, .int .u8 0, .int .u8 0, .int .u8 0, .int .u8 0, .int .u8 0, .int .u8 0, .int .u8 0, .int .u8 0, .int .u8 0, .int .u8 0, .int .u8 0, .int .u8 0, .int .u8 0, .int .u8 0, .int .u8 0, .int .u8 0, .int .u8 0, .int .u8 0, .int .u8 0, .int .u8 0, .int .u8 0, .int .u8 0, .int .u8 0, .int .u8 0, .int .u8 0, .int .u8 0] 24)).heap.size = w.heap.size + 1 := by show (w.heap.push _).size = _; rw [Array.size_push]
    rw [← e]
    exact (Row.alloc _ [.int .i64 7, .int .i64 18, .int .i64 3, .int .i64 17, .int .i64 19, .int .i64 10, .int .i64 2, .int .i64 13, .int .i64 22, .int .i64 6, .int .i64 11, .int .i64 25] _).ext (ext_alloc _ _)
  have hRo : Row W0 bo 24 ((List.replicate 32 (0 : UInt8)).map bv) := by
    rw [hW0, hbo]
    have e : ((w.alloc (.cells #[.int .u8 0, .int .u8 0, .int .u8 0, .int .u8 0, .int .u8 0, .int .u8 0, .int .u8 0, .int .u8 0, .int .u8 0, .int .u8 0, .int .u8 0, .int .u8 0, .int .u8 0, .int .u8 0, .int .u8 0, .int .u8 0, .int .u8 0, .int .u8 0, .int .u8 0, .int .u8 0, .int .u8 0, .int .u8 0, .int .u8 0, .int .u8 0, .int .u8 0, .int .u8 0, .int .u8 0, .int .u8 0, .int .u8 0, .int .u8 0, .int .u8 0, .int .u8 0] 24)).alloc (.cells #[.int .i64 7, .int .i64 18, .int .i64 3, .int .i64 17, .int .i64 19, .int .i64 10, .int .i64 2, .int .i64 13, .int .i64 22, .int .i64 6, .int .i64 11, .int .i64 25] 40)).heap.size = w.heap.size + 1 + 1 := by
      show ((w.heap.push _).push _).size = _
      rw [Array.size_push, Array.size_push]
    rw [← e]
    exact Row.alloc _ ((List.replicate 32 (0 : UInt8)).map bv) _
  rw [← hbo, ← hbt, ← hbr]
  have nro : br ≠ bo := by omega
  have hbrB : w.heap.size ≤ br := by omega
  have hboB : w.heap.size ≤ bo := by omega
  have dt0 : W0.cell? ⟨bt, 0, none⟩ = some (.int .i64 7) := (hRt.cell (i := 0) (by simp)).trans rfl
  have dt1 : W0.cell? ⟨bt, 1, none⟩ = some (.int .i64 18) := (hRt.cell (i := 1) (by simp)).trans rfl
  have dt2 : W0.cell? ⟨bt, 2, none⟩ = some (.int .i64 3) := (hRt.cell (i := 2) (by simp)).trans rfl
  have dt3 : W0.cell? ⟨bt, 3, none⟩ = some (.int .i64 17) := (hRt.cell (i := 3) (by simp)).trans rfl
  have dt4 : W0.cell? ⟨bt, 4, none⟩ = some (.int .i64 19) := (hRt.cell (i := 4) (by simp)).trans rfl
  have dt5 : W0.cell? ⟨bt, 5, none⟩ = some (.int .i64 10) := (hRt.cell (i := 5) (by simp)).trans rfl
  have dt6 : W0.cell? ⟨bt, 6, none⟩ = some (.int .i64 2) := (hRt.cell (i := 6) (by simp)).trans rfl
  have dt7 : W0.cell? ⟨bt, 7, none⟩ = some (.int .i64 13) := (hRt.cell (i := 7) (by simp)).trans rfl
  have dt8 : W0.cell? ⟨bt, 8, none⟩ = some (.int .i64 22) := (hRt.cell (i := 8) (by simp)).trans rfl
  have dt9 : W0.cell? ⟨bt, 9, none⟩ = some (.int .i64 6) := (hRt.cell (i := 9) (by simp)).trans rfl
  have dt10 : W0.cell? ⟨bt, 10, none⟩ = some (.int .i64 11) := (hRt.cell (i := 10) (by simp)).trans rfl
  have dt11 : W0.cell? ⟨bt, 11, none⟩ = some (.int .i64 25) := (hRt.cell (i := 11) (by simp)).trans rfl
  replace hb0 := Ext.cell hx0 hb0
  replace hb1 := Ext.cell hx0 hb1
  replace hb2 := Ext.cell hx0 hb2
  replace hb3 := Ext.cell hx0 hb3
  replace hb4 := Ext.cell hx0 hb4
  replace hb5 := Ext.cell hx0 hb5
  replace hb6 := Ext.cell hx0 hb6
  replace hb7 := Ext.cell hx0 hb7
  clear hW0 hbr hbt hbo hRt
  go_upto_region 3 with fail
  refine wp_region_sure (fun w' => Ext W0 w') (by kernel_rfl) (ext_drew _) ?_
  refine wpAnyS_go (i := 0) (some 13) (v := ?_) rfl rfl (by kernel_rfl) (by kernel_rfl) (by kernel_rfl) (fun _ _ _ h => h) (.inl ⟨by rfl, fun w hS => ?_⟩) ?_
  rotate_left
  · (try go_simp)
    refine ⟨?_, hS⟩
    with_reducible rfl
  simp only [Act.put, List.setIfInBounds_toArray, List.set_cons_zero, List.set_cons_succ]
  refine wpAnyS_go (i := 1) (some 14) (v := ?_) rfl rfl (by kernel_rfl) (by kernel_rfl) (by kernel_rfl) (fun _ _ _ h => h) (.inl ⟨by rfl, fun w hS => ?_⟩) ?_
  rotate_left
  · have e0 := Ext.cell hS hb0; have e1 := Ext.cell hS hb1; have e2 := Ext.cell hS hb2; have e3 := Ext.cell hS hb3; have e4 := Ext.cell hS hb4; have e5 := Ext.cell hS hb5; have e6 := Ext.cell hS hb6; have e7 := Ext.cell hS hb7
    go_simp
    refine ⟨?_, hS⟩
    with_reducible rfl
  simp only [Act.put, List.setIfInBounds_toArray, List.set_cons_zero, List.set_cons_succ]
  refine wpAnyS_go (i := 2) (some 15) (v := ?_) rfl rfl (by kernel_rfl) (by kernel_rfl) (by kernel_rfl) (fun _ _ _ h => h) (.inl ⟨by rfl, fun w hS => ?_⟩) ?_
  rotate_left
  · (try go_simp)
    refine ⟨?_, hS⟩
    with_reducible rfl
  simp only [Act.put, List.setIfInBounds_toArray, List.set_cons_zero, List.set_cons_succ]
  refine wpAnyS_go (i := 3) (some 16) (v := ?_) rfl rfl (by kernel_rfl) (by kernel_rfl) (by kernel_rfl) (fun _ _ _ h => h) (.inl ⟨by rfl, fun w hS => ?_⟩) ?_
  rotate_left
  · have e0 := Ext.cell hS dt0; have e1 := Ext.cell hS dt1; have e2 := Ext.cell hS dt2; have e3 := Ext.cell hS dt3; have e4 := Ext.cell hS dt4; have e5 := Ext.cell hS dt5; have e6 := Ext.cell hS dt6; have e7 := Ext.cell hS dt7; have e8 := Ext.cell hS dt8; have e9 := Ext.cell hS dt9; have e10 := Ext.cell hS dt10; have e11 := Ext.cell hS dt11
    go_simp
    refine ⟨?_, hS⟩
    with_reducible rfl
  simp only [Act.put, List.setIfInBounds_toArray, List.set_cons_zero, List.set_cons_succ]
  refine wpAnyS_go (i := 4) (some 17) (v := ?_) rfl rfl (by kernel_rfl) (by kernel_rfl) (by kernel_rfl) (fun _ _ _ h => h) (.inl ⟨by rfl, fun w hS => ?_⟩) ?_
  rotate_left
  · go_simp
    change Calls _ _ _ _ _
    refine Calls.mono (hsum _ (hx0.trans hS)) ?_
    rintro e w' ⟨rfl, hx⟩
    refine ⟨?_, hS.trans hx⟩
    with_reducible rfl
  simp only [Act.put, List.setIfInBounds_toArray, List.set_cons_zero, List.set_cons_succ]
  refine wpAnyS_go (i := 5) (some 18) (v := ?_) rfl rfl (by kernel_rfl) (by kernel_rfl) (by kernel_rfl) (fun _ _ _ h => h) (.inl ⟨by rfl, fun w hS => ?_⟩) ?_
  rotate_left
  · (try go_simp)
    refine ⟨?_, hS⟩
    with_reducible rfl
  simp only [Act.put, List.setIfInBounds_toArray, List.set_cons_zero, List.set_cons_succ]
  refine wpAnyS_done (by kernel_rfl) fun W1 hS1 => ?_
  replace hRr := hRr.ext hS1
  replace hRo := hRo.ext hS1
  have hx1 := hx0.trans hS1
  clear hsum hb0 hb1 hb2 hb3 hb4 hb5 hb6 hb7 dt0 dt1 dt2 dt3 dt4 dt5 dt6 dt7 dt8 dt9 dt10 dt11 hS1
  go_wp2
  go_loopw [18] (fun t18 wr => ∃ (i : Nat) (d : List UInt8), i ≤ 8 ∧ t18 = .int .i64 i ∧ d.length = 32 ∧ Row wr bo 24 (d.map bv) ∧ Hid (d.take (4 * i) = (digest32 T).take (4 * i)) ∧ Keep [bo] W1 wr) (fun t18 _ => 8 - (intOf t18).toNat)
  case atStart => exact ⟨0, List.replicate 32 0, by decide, rfl, by simp, hRo, Lib.hid rfl, Keep.refl _ _⟩
  case round =>
    obtain ⟨i, d, hi, rfl, hdl, hRo, htk, hK⟩ := hrel
    by_cases hi8 : i < 8
    · have hi8' : (i : Int) < 8 := by omega
      have bi : 0 ≤ (i : Int) ∧ (i : Int) < 8 := by omega
      have hlT : T.l.length = 8 := rfl
      have hxi := fun w => idx32 T i w hi8
      obtain ⟨x, hx⟩ : ∃ x, x = T.l.getD i 0 := ⟨_, rfl⟩
      rw [← hx] at hxi
      have hxx := Lib.hid hx
      clear hx hlT
      obtain ⟨W2, hW2⟩ : ∃ W2, W2 = wr := ⟨_, rfl⟩
      subst hW2
      go_wp2
      go_loopw [22] (fun t22 wr => ∃ (j : Nat) (d : List UInt8), j ≤ 4 ∧ t22 = .int .i64 j ∧ d.length = 32 ∧ Row wr bo 24 (d.map bv) ∧ Hid (d.take (4 * i + j) = (digest32 T).take (4 * i + j)) ∧ Keep [bo] W2 wr) (fun t22 _ => 4 - (intOf t22).toNat)
      case atStart => exact ⟨0, d, by decide, rfl, hdl, hRo, htk, Keep.refl _ _⟩
      case round =>
        obtain ⟨j, d, hj, rfl, hdl, hRo, htk, hK2⟩ := hrel
        by_cases hjS : j < 4
        · have hjS' : (j : Int) < 4 := by omega
          obtain ⟨k, hk⟩ : ∃ k, k = 4 * i + j := ⟨_, rfl⟩
          obtain ⟨e, he⟩ : ∃ e, e = 24 - 8 * j := ⟨_, rfl⟩
          have k1 : 4 * (i : Int) + (j : Int) = (k : Int) := by omega
          have k2 : 0 ≤ (k : Int) ∧ (k : Int) < 32 := by omega
          have e1 : 24 - 8 * (j : Int) = (e : Int) := by omega
          have e2 : 0 ≤ (e : Int) := by omega
          have e3 : (e : Int) ≤ 32 := by omega
          have e3' : (e : Int) ≤ 64 := by omega
          have e4 := shr_eq32 x e (by omega)
          have ck := hRo.cell (i := k) (by rw [List.length_map]; omega)
          rw [List.getElem_map] at ck
          have fk := hRo.fro k
          have hat : outAt32 T k = (x >>> UInt32.ofNat e).toUInt8 := by
            unfold outAt32
            rw [show k / 4 = i from by omega, ← hxx.out, show 8 * (3 - k % 4) = e from by omega]
          have hdl2 : (digest32 T).length = 32 := by simp [digest32]
          have hnx : Hid ((d.set k (x >>> UInt32.ofNat e).toUInt8).take (4 * i + (j + 1)) = (digest32 T).take (4 * i + (j + 1))) := Lib.hid (by
            rw [show 4 * i + (j + 1) = k + 1 from by omega]
            have h0 := htk.out
            rw [← hk] at h0
            rw [List.take_succ_eq_append_getElem (by rw [List.length_set]; omega), List.take_succ_eq_append_getElem (show k < (digest32 T).length by omega), List.getElem_set_self]
            congr 1
            · rw [List.take_set_of_le (Nat.le_refl _)]; exact h0
            · simp only [digest32, List.getElem_map, List.getElem_range]
              rw [hat])
          generalize d[k]'_ = dk at *
          clear hat htk hk he
          go_wp2
          refine ⟨⟨j + 1, d.set k (x >>> UInt32.ofNat e).toUInt8, by omega, by go_num, by rw [List.length_set]; exact hdl, ?_, hnx, ?_⟩, by simp [intOf]; omega⟩
          · rw [List.map_set]
            exact hRo.set k _
          · exact hK2.same (Keep.setCell _ ⟨bo, k, none⟩ _)
        · obtain rfl : j = 4 := by omega
          clear hxi
          go_wp2
          exact ⟨⟨i + 1, d, by omega, by go_num, hdl, hRo, htk, hK.same hK2⟩, by simp [intOf]; omega⟩
    · obtain rfl : i = 8 := by omega
      have hdd : d = digest32 T := by
        have h0 := htk.out
        rw [List.take_of_length_le (by omega), List.take_of_length_le (by simp [digest32])] at h0
        exact h0
      have hRr2 := hRr.keep hK (by simpa using nro)
      clear htk
      have hRow1 : wr.heap[bo]? = some (.cells (d.map bv).toArray 24 (0, 0)) := hRo
      have hRow2 : wr.heap[br]? = some (.cells ((List.replicate 32 (0 : UInt8)).map bv).toArray 24 (0, 0)) := hRr2
      have hs1 : ((d.map bv).toArray).size = 32 := by simp [hdl]
      have hs2 : (((List.replicate 32 (0 : UInt8)).map bv).toArray).size = 32 := by simp
      have hall : ((d.map bv).toArray).all (·.oneCell') = true := Array.all_eq_true_iff_forall_mem.2 (fun v hv => one_map_bv d v (by simpa using hv))
      generalize hcells : (d.map bv).toArray = cells at *
      generalize ((List.replicate 32 (0 : UInt8)).map bv).toArray = olds at *
      go_wp2_with (first
        | (refine wpList_load_row rfl 24 (.tmp 4) rfl bo rfl 24 cells (0, 0) _ hRow1 Tryd.underlying24 rfl (by rw [hs1]; exact info32) ?_)
        | (refine wpList_store_row rfl 24 (.tmp 2) (.tmp 38) rfl br cells rfl rfl 24 olds hRow2 (by rw [hs1]; exact info32) (by rw [hs2, hs1]) hall ?_))
      refine bodyPost_ret (results_cell_row (p := 2) (ty := 24) rfl _ _ br 24 cells (0, 0) _ ?_ (setRow_heap wr br olds cells 24 (0, 0) hRow2) Tryd.underlying24 rfl (by rw [hs1]; exact info32)) rfl ⟨?_, ?_⟩
      · rfl
      · rw [← hcells, hdd]
      · exact Below.trans hx1 (below_setRow (hK.below (fun x hx => by simp at hx; omega) hx1.size) hbrB cells)
end Go.Proofs.YtnlphndfnnmdaaaDoor
