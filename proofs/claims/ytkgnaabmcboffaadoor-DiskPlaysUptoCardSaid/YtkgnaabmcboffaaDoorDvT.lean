/-
  One thing is done with both disks: it is read; nothing.
-/
import Derived.Test.YtkgnaabmcboffaaDoorDvS
set_option linter.unusedSimpArgs false
set_option linter.unusedVariables false
namespace Go.Proofs.YtkgnaabmcboffaaDoor
open Go.RowKit Go.Cv Go.Cv.Dk
theorem rread_rk {B r : Nat} {S : DS} {bs : List Nat} (s : ByteArray) {w : World} (h : Rsk w B r S bs) (hL : S.l.length < 1099511627776) :
    Calls Tryd.prog 34 #[.pointer (some ⟨r, 0, none⟩), .string s] w fun e w' => ∃ A cc, e = .returned (.tuple #[.slice A (rd S s.data.toList).2.length cc, .int .i64 (rd S s.data.toList).1]) ∧ Rd w A ((rd S s.data.toList).2.map bv) ∧ (∀ x ∈ rowOf A, x < w.heap.size) ∧ w = w' := by
  obtain ⟨T, c, L, h, rfl⟩ := h
  rw [h.ls, List.length_map] at hL
  exact rread_any B r S T c L s w h (by omega)
theorem dno_rd (S : DS) (x : List UInt8) : Dno (rd S x).1 := dno_fnd S x
set_option maxRecDepth 20000 in
set_option maxHeartbeats 3200000 in
theorem step_read (B d r : Nat) (S : DS) (bs cs : List Nat) (k : Int) (x y : ByteArray) (n : Int) (A : Option Addr) (m cb : Nat) (w : World) (h : Two w B d r S S bs cs) (hk : -9223372036854775808 ≤ k ∧ k ≤ 9223372036854775807) (hj : pickI k 10 = 8) (hx : x.size ≤ 281474976710656) (hL : S.l.length < 1099511627776) (hB : B ≤ w.heap.size) :
    Calls Tryd.prog 15 #[.pointer (some ⟨d, 0, none⟩), .pointer (some ⟨r, 0, none⟩), .agg #[.int .i64 k, .string x, .string y, .int .i64 n, .slice A m cb]] w (Stepped w B d r bs cs S) := by
  refine calls_hid fun G hG => ?_
  have hP := fun w0 => pick_any k 10 w0 hk (by omega)
  rw [hj] at hP
  obtain ⟨wa, hwa⟩ : ∃ wa, wa = w.alloc (.cells #[.int .i64 k, .string x, .string y, .int .i64 n, .slice A m cb] 45) := ⟨_, rfl⟩
  have hxa : Ext w wa := by rw [hwa]; exact ext_alloc _ _
  have hRow : Row wa w.heap.size 45 (opc k x y n A m cb) := by rw [hwa]; exact Row.alloc w (opc k x y n A m cb) _
  have hbn := box_not h
  have p0 : wa.cell? ⟨w.heap.size, 0, none⟩ = some (.int .i64 k) := hRow.cell (i := 0) (by simp [opc])
  have p1 : wa.cell? ⟨w.heap.size, 1, none⟩ = some (.string x) := hRow.cell (i := 1) (by simp [opc])
  have p2 : wa.cell? ⟨w.heap.size, 2, none⟩ = some (.string y) := hRow.cell (i := 2) (by simp [opc])
  have p3 : wa.cell? ⟨w.heap.size, 3, none⟩ = some (.int .i64 n) := hRow.cell (i := 3) (by simp [opc])
  have p4 : wa.cell? ⟨w.heap.size, 4, none⟩ = some (.slice A m cb) := hRow.cell (i := 4) (by simp [opc])
  have hTa := h.ext hxa
  have hBa : B ≤ wa.heap.size := Nat.le_trans hB hxa.size
  have hg : ∀ w' bs' cs', Two w' B d r S S bs' cs' → Stp (bs ++ cs) (bs' ++ cs') wa w' → G (.returned (.bool true)) w' := fun w' bs' cs' h1 h2 => hG.out _ _ ⟨rfl, bs', cs', h1, Stp.after hxa h2⟩
  have hA := readd_dk x hTa.d hx
  have hC := fun w0 => code_err (dno_rd S x.data.toList) w0
  replace hg := Lib.hid hg
  replace hwa := Lib.hid hwa
  replace hTa := Lib.hid hTa
  clear hG h hRow hj
  go_enter Tryd.func15, Tryd.ntmps15
  go_wp2_with (first
    | (go_at_call 10; (rw [← hwa.out]; with_reducible refine (hP _).mono ?_); rintro e' w' ⟨rfl, rfl⟩)
    | (go_at_call 12; (with_reducible refine hA.mono ?_); rintro e' w1 ⟨v, rfl, A1, c1, rfl, hx1, ho1, hc1, hm1, hr1⟩; have p1' := hx1.cell p1; have hR := rread_rk x (hTa.out.ext hx1).r hL)
    | (go_at_call 34; (with_reducible refine hR.mono ?_); rintro e' w2 ⟨A2, c2, rfl, hr2, hl2, rfl⟩; have hM := same10_any A1 _ c1 _ A2 _ c2 _ w1 rfl hr1 rfl hr2; rw [decide_eq_true rfl] at hM)
    | (go_at_call 13; (with_reducible refine hM.mono ?_); rintro e' w2 ⟨rfl, rfl⟩)
    | (go_at_call 24; (with_reducible refine (hC _).mono ?_); rintro e' w2 ⟨rfl, rfl⟩))
  exact hg.out _ _ _ (hTa.out.ext hx1) (Stp.of_ext hx1)
set_option maxRecDepth 20000 in
set_option maxHeartbeats 3200000 in
theorem step_none (B d r : Nat) (S : DS) (bs cs : List Nat) (k : Int) (x y : ByteArray) (n : Int) (A : Option Addr) (m cb : Nat) (w : World) (h : Two w B d r S S bs cs) (hk : -9223372036854775808 ≤ k ∧ k ≤ 9223372036854775807) (hj : pickI k 10 = 9) (hx : x.size ≤ 281474976710656) (hL : S.l.length < 1099511627776) (hB : B ≤ w.heap.size) :
    Calls Tryd.prog 15 #[.pointer (some ⟨d, 0, none⟩), .pointer (some ⟨r, 0, none⟩), .agg #[.int .i64 k, .string x, .string y, .int .i64 n, .slice A m cb]] w (Stepped w B d r bs cs S) := by
  refine calls_hid fun G hG => ?_
  have hP := fun w0 => pick_any k 10 w0 hk (by omega)
  rw [hj] at hP
  obtain ⟨wa, hwa⟩ : ∃ wa, wa = w.alloc (.cells #[.int .i64 k, .string x, .string y, .int .i64 n, .slice A m cb] 45) := ⟨_, rfl⟩
  have hxa : Ext w wa := by rw [hwa]; exact ext_alloc _ _
  have hRow : Row wa w.heap.size 45 (opc k x y n A m cb) := by rw [hwa]; exact Row.alloc w (opc k x y n A m cb) _
  have hbn := box_not h
  have p0 : wa.cell? ⟨w.heap.size, 0, none⟩ = some (.int .i64 k) := hRow.cell (i := 0) (by simp [opc])
  have p1 : wa.cell? ⟨w.heap.size, 1, none⟩ = some (.string x) := hRow.cell (i := 1) (by simp [opc])
  have p2 : wa.cell? ⟨w.heap.size, 2, none⟩ = some (.string y) := hRow.cell (i := 2) (by simp [opc])
  have p3 : wa.cell? ⟨w.heap.size, 3, none⟩ = some (.int .i64 n) := hRow.cell (i := 3) (by simp [opc])
  have p4 : wa.cell? ⟨w.heap.size, 4, none⟩ = some (.slice A m cb) := hRow.cell (i := 4) (by simp [opc])
  have hTa := h.ext hxa
  have hBa : B ≤ wa.heap.size := Nat.le_trans hB hxa.size
  have hg : ∀ w' bs' cs', Two w' B d r S S bs' cs' → Stp (bs ++ cs) (bs' ++ cs') wa w' → G (.returned (.bool true)) w' := fun w' bs' cs' h1 h2 => hG.out _ _ ⟨rfl, bs', cs', h1, Stp.after hxa h2⟩
  replace hg := Lib.hid hg
  replace hwa := Lib.hid hwa
  replace hTa := Lib.hid hTa
  clear hG h hRow hj
  go_enter Tryd.func15, Tryd.ntmps15
  go_wp2_with (first
    | (go_at_call 10; (rw [← hwa.out]; with_reducible refine (hP _).mono ?_); rintro e' w' ⟨rfl, rfl⟩)
    | fail)
  exact hg.out _ _ _ hTa.out (Stp.refl _ _)
end Go.Proofs.YtkgnaabmcboffaaDoor
