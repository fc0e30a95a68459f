/-
  One thing is done with both disks.
-/
import Derived.Test.YtkgnaabmcboffaaDoorDvL
set_option linter.unusedSimpArgs false
set_option linter.unusedVariables false
namespace Go.Proofs.YtkgnaabmcboffaaDoor
open Go.RowKit Go.Cv Go.Cv.Dk
/-- A request's cells. -/
def opc (k : Int) (x y : ByteArray) (n : Int) (A : Option Addr) (m cb : Nat) : List Value := [.int .i64 k, .string x, .string y, .int .i64 n, .slice A m cb]
/-- What is there behind a step. -/
def Stepped (w : World) (B d r : Nat) (bs cs : List Nat) (S1 : DS) (e : Ending) (w' : World) : Prop := e = .returned (.bool true) ∧ ∃ bs' cs', Two w' B d r S1 S1 bs' cs' ∧ Stp (bs ++ cs) (bs' ++ cs') w w'
theorem two_keep {w w' : World} {bs cs : List Nat} {bx i : Nat} {v : Value} (h : Stp bs cs w w') (hc : w.cell? ⟨bx, i, none⟩ = some v) (hb : bx ∉ bs) : w'.cell? ⟨bx, i, none⟩ = some v := h.k.cell hc hb
theorem box_not {w : World} {B d r : Nat} {S S' : DS} {bs cs : List Nat} (h : Two w B d r S S' bs cs) : w.heap.size ∉ bs ++ cs := fun hm => by
  rcases List.mem_append.1 hm with hm | hm
  · have := (h.d.lt _ hm).2; omega
  · have := (h.r.lt _ hm).2; omega
set_option maxRecDepth 20000 in
set_option maxHeartbeats 3200000 in
theorem step_sync (B d r : Nat) (S : DS) (bs cs : List Nat) (k : Int) (x y : ByteArray) (n : Int) (A : Option Addr) (m cb : Nat) (w : World) (h : Two w B d r S S bs cs) (hk : -9223372036854775808 ≤ k ∧ k ≤ 9223372036854775807) (hj : pickI k 10 = 2) (hx : x.size ≤ 281474976710656) (hL : S.l.length < 1099511627776) (hB : B ≤ w.heap.size) :
    Calls Tryd.prog 15 #[.pointer (some ⟨d, 0, none⟩), .pointer (some ⟨r, 0, none⟩), .agg #[.int .i64 k, .string x, .string y, .int .i64 n, .slice A m cb]] w (Stepped w B d r bs cs (syn wrap64 S x.data.toList).2) := by
  refine calls_hid fun G hG => ?_
  have hP := fun w0 => pick_any k 10 w0 hk (by omega)
  rw [hj] at hP
  obtain ⟨wa, hwa⟩ : ∃ wa, wa = w.alloc (.cells #[.int .i64 k, .string x, .string y, .int .i64 n, .slice A m cb] 45) := ⟨_, rfl⟩
  have hxa : Ext w wa := by rw [hwa]; exact ext_alloc _ _
  have hRow : Row wa w.heap.size 45 (opc k x y n A m cb) := by rw [hwa]; exact Row.alloc w (opc k x y n A m cb) _
  have hbn := box_not h
  have p0 : wa.cell? ⟨w.heap.size, 0, none⟩ = some (.int .i64 k) := hRow.cell (i := 0) (by simp [opc])
  have p1 : wa.cell? ⟨w.heap.size, 1, none⟩ = some (.string x) := hRow.cell (i := 1) (by simp [opc])
  have p2 : wa.cell? ⟨w.heap.size, 2, none⟩ = some (.string y) := hRow.cell (i := 2) (by simp [opc])
  have p3 : wa.cell? ⟨w.heap.size, 3, none⟩ = some (.int .i64 n) := hRow.cell (i := 3) (by simp [opc])
  have p4 : wa.cell? ⟨w.heap.size, 4, none⟩ = some (.slice A m cb) := hRow.cell (i := 4) (by simp [opc])
  have hTa := h.ext hxa
  have hBa : B ≤ wa.heap.size := Nat.le_trans hB hxa.size
  have hg : ∀ w' bs' cs', Two w' B d r (syn wrap64 S x.data.toList).2 (syn wrap64 S x.data.toList).2 bs' cs' → Stp (bs ++ cs) (bs' ++ cs') wa w' → G (.returned (.bool true)) w' := fun w' bs' cs' h1 h2 => hG.out _ _ ⟨rfl, bs', cs', h1, Stp.after hxa h2⟩
  have hA := sync_dk x hTa.d hx
  have hC := fun w0 => code_err (dno_syn S x.data.toList) w0
  replace hg := Lib.hid hg
  replace hwa := Lib.hid hwa
  replace hTa := Lib.hid hTa
  clear hG h hRow hj
  go_enter Tryd.func15, Tryd.ntmps15
  go_wp2_with (first
    | (go_at_call 10; (rw [← hwa.out]; with_reducible refine (hP _).mono ?_); rintro e' w' ⟨rfl, rfl⟩)
    | (go_at_call 8; (with_reducible refine hA.mono ?_); rintro e' w1 ⟨rfl, hd1⟩; obtain ⟨bs1, hT1, hS1⟩ := hTa.out.onD hd1; have p1' := two_keep hS1 p1 hbn; have p2' := two_keep hS1 p2 hbn; have p3' := two_keep hS1 p3 hbn; have hB1 : B ≤ w1.heap.size := Nat.le_trans hBa hS1.k.size))
  go_region_law (first
    | (go_simp; go_at_call 24; (with_reducible refine (hC _).mono ?_); rintro e' w' ⟨rfl, rfl⟩)
    | (go_simp; go_at_call 25; (with_reducible refine (rsync_rk x (hT1.ext (ext_drew _)).r hL (Nat.le_trans hB1 (ext_drew _).size)).mono ?_); rintro e' w2 ⟨rfl, hd2⟩; obtain ⟨cs2, hT2, hS2⟩ := (hT1.ext (ext_drew _)).onR hd2))
  all_goals
    have hgg := hg.out _ _ _ hT2 (hS1.trans (Stp.after (ext_drew _) hS2))
    clear hg hT2 hS2 hT1 hS1
    go_wp2
    go_ret
    exact hgg
set_option maxRecDepth 20000 in
set_option maxHeartbeats 3200000 in
theorem step_trunc (B d r : Nat) (S : DS) (bs cs : List Nat) (k : Int) (x y : ByteArray) (n : Int) (A : Option Addr) (m cb : Nat) (w : World) (h : Two w B d r S S bs cs) (hk : -9223372036854775808 ≤ k ∧ k ≤ 9223372036854775807) (hj : pickI k 10 = 3) (hx : x.size ≤ 281474976710656) (hL : S.l.length < 1099511627776) (hB : B ≤ w.heap.size) (hn : n ≤ 9223372036854775807) :
    Calls Tryd.prog 15 #[.pointer (some ⟨d, 0, none⟩), .pointer (some ⟨r, 0, none⟩), .agg #[.int .i64 k, .string x, .string y, .int .i64 n, .slice A m cb]] w (Stepped w B d r bs cs (trunc wrap64 S x.data.toList n).2) := by
  refine calls_hid fun G hG => ?_
  have hP := fun w0 => pick_any k 10 w0 hk (by omega)
  rw [hj] at hP
  obtain ⟨wa, hwa⟩ : ∃ wa, wa = w.alloc (.cells #[.int .i64 k, .string x, .string y, .int .i64 n, .slice A m cb] 45) := ⟨_, rfl⟩
  have hxa : Ext w wa := by rw [hwa]; exact ext_alloc _ _
  have hRow : Row wa w.heap.size 45 (opc k x y n A m cb) := by rw [hwa]; exact Row.alloc w (opc k x y n A m cb) _
  have hbn := box_not h
  have p0 : wa.cell? ⟨w.heap.size, 0, none⟩ = some (.int .i64 k) := hRow.cell (i := 0) (by simp [opc])
  have p1 : wa.cell? ⟨w.heap.size, 1, none⟩ = some (.string x) := hRow.cell (i := 1) (by simp [opc])
  have p2 : wa.cell? ⟨w.heap.size, 2, none⟩ = some (.string y) := hRow.cell (i := 2) (by simp [opc])
  have p3 : wa.cell? ⟨w.heap.size, 3, none⟩ = some (.int .i64 n) := hRow.cell (i := 3) (by simp [opc])
  have p4 : wa.cell? ⟨w.heap.size, 4, none⟩ = some (.slice A m cb) := hRow.cell (i := 4) (by simp [opc])
  have hTa := h.ext hxa
  have hBa : B ≤ wa.heap.size := Nat.le_trans hB hxa.size
  have hg : ∀ w' bs' cs', Two w' B d r (trunc wrap64 S x.data.toList n).2 (trunc wrap64 S x.data.toList n).2 bs' cs' → Stp (bs ++ cs) (bs' ++ cs') wa w' → G (.returned (.bool true)) w' := fun w' bs' cs' h1 h2 => hG.out _ _ ⟨rfl, bs', cs', h1, Stp.after hxa h2⟩
  have hA := trunc_dk x n hTa.d hx hn
  have hC := fun w0 => code_err (dno_trunc S x.data.toList n) w0
  replace hg := Lib.hid hg
  replace hwa := Lib.hid hwa
  replace hTa := Lib.hid hTa
  clear hG h hRow hj
  go_enter Tryd.func15, Tryd.ntmps15
  go_wp2_with (first
    | (go_at_call 10; (rw [← hwa.out]; with_reducible refine (hP _).mono ?_); rintro e' w' ⟨rfl, rfl⟩)
    | (go_at_call 26; (with_reducible refine hA.mono ?_); rintro e' w1 ⟨rfl, hd1⟩; obtain ⟨bs1, hT1, hS1⟩ := hTa.out.onD hd1; have p1' := two_keep hS1 p1 hbn; have p2' := two_keep hS1 p2 hbn; have p3' := two_keep hS1 p3 hbn; have hB1 : B ≤ w1.heap.size := Nat.le_trans hBa hS1.k.size))
  go_region_law (first
    | (go_simp; go_at_call 24; (with_reducible refine (hC _).mono ?_); rintro e' w' ⟨rfl, rfl⟩)
    | (go_simp; go_at_call 27; (with_reducible refine (rtrunc_rk x n (hT1.ext (ext_drew _)).r hL (Nat.le_trans hB1 (ext_drew _).size) hn).mono ?_); rintro e' w2 ⟨rfl, hd2⟩; obtain ⟨cs2, hT2, hS2⟩ := (hT1.ext (ext_drew _)).onR hd2))
  all_goals
    have hgg := hg.out _ _ _ hT2 (hS1.trans (Stp.after (ext_drew _) hS2))
    clear hg hT2 hS2 hT1 hS1
    go_wp2
    go_ret
    exact hgg
set_option maxRecDepth 20000 in
set_option maxHeartbeats 3200000 in
theorem step_ren (B d r : Nat) (S : DS) (bs cs : List Nat) (k : Int) (x y : ByteArray) (n : Int) (A : Option Addr) (m cb : Nat) (w : World) (h : Two w B d r S S bs cs) (hk : -9223372036854775808 ≤ k ∧ k ≤ 9223372036854775807) (hj : pickI k 10 = 4) (hx : x.size ≤ 281474976710656) (hL : S.l.length < 1099511627776) (hB : B ≤ w.heap.size) (hy : y.size ≤ 281474976710656) :
    Calls Tryd.prog 15 #[.pointer (some ⟨d, 0, none⟩), .pointer (some ⟨r, 0, none⟩), .agg #[.int .i64 k, .string x, .string y, .int .i64 n, .slice A m cb]] w (Stepped w B d r bs cs (ren wrap64 S x.data.toList y.data.toList).2) := by
  refine calls_hid fun G hG => ?_
  have hP := fun w0 => pick_any k 10 w0 hk (by omega)
  rw [hj] at hP
  obtain ⟨wa, hwa⟩ : ∃ wa, wa = w.alloc (.cells #[.int .i64 k, .string x, .string y, .int .i64 n, .slice A m cb] 45) := ⟨_, rfl⟩
  have hxa : Ext w wa := by rw [hwa]; exact ext_alloc _ _
  have hRow : Row wa w.heap.size 45 (opc k x y n A m cb) := by rw [hwa]; exact Row.alloc w (opc k x y n A m cb) _
  have hbn := box_not h
  have p0 : wa.cell? ⟨w.heap.size, 0, none⟩ = some (.int .i64 k) := hRow.cell (i := 0) (by simp [opc])
  have p1 : wa.cell? ⟨w.heap.size, 1, none⟩ = some (.string x) := hRow.cell (i := 1) (by simp [opc])
  have p2 : wa.cell? ⟨w.heap.size, 2, none⟩ = some (.string y) := hRow.cell (i := 2) (by simp [opc])
  have p3 : wa.cell? ⟨w.heap.size, 3, none⟩ = some (.int .i64 n) := hRow.cell (i := 3) (by simp [opc])
  have p4 : wa.cell? ⟨w.heap.size, 4, none⟩ = some (.slice A m cb) := hRow.cell (i := 4) (by simp [opc])
  have hTa := h.ext hxa
  have hBa : B ≤ wa.heap.size := Nat.le_trans hB hxa.size
  have hg : ∀ w' bs' cs', Two w' B d r (ren wrap64 S x.data.toList y.data.toList).2 (ren wrap64 S x.data.toList y.data.toList).2 bs' cs' → Stp (bs ++ cs) (bs' ++ cs') wa w' → G (.returned (.bool true)) w' := fun w' bs' cs' h1 h2 => hG.out _ _ ⟨rfl, bs', cs', h1, Stp.after hxa h2⟩
  have hA := rename_dk x y hTa.d hx hy (by omega)
  have hC := fun w0 => code_err (dno_ren S x.data.toList y.data.toList) w0
  replace hg := Lib.hid hg
  replace hwa := Lib.hid hwa
  replace hTa := Lib.hid hTa
  clear hG h hRow hj
  go_enter Tryd.func15, Tryd.ntmps15
  go_wp2_with (first
    | (go_at_call 10; (rw [← hwa.out]; with_reducible refine (hP _).mono ?_); rintro e' w' ⟨rfl, rfl⟩)
    | (go_at_call 28; (with_reducible refine hA.mono ?_); rintro e' w1 ⟨rfl, hd1⟩; obtain ⟨bs1, hT1, hS1⟩ := hTa.out.onD hd1; have p1' := two_keep hS1 p1 hbn; have p2' := two_keep hS1 p2 hbn; have p3' := two_keep hS1 p3 hbn; have hB1 : B ≤ w1.heap.size := Nat.le_trans hBa hS1.k.size))
  go_region_law (first
    | (go_simp; go_at_call 24; (with_reducible refine (hC _).mono ?_); rintro e' w' ⟨rfl, rfl⟩)
    | (go_simp; go_at_call 29; (with_reducible refine (rrename_rk x y (hT1.ext (ext_drew _)).r hL (Nat.le_trans hB1 (ext_drew _).size)).mono ?_); rintro e' w2 ⟨rfl, hd2⟩; obtain ⟨cs2, hT2, hS2⟩ := (hT1.ext (ext_drew _)).onR hd2))
  all_goals
    have hgg := hg.out _ _ _ hT2 (hS1.trans (Stp.after (ext_drew _) hS2))
    clear hg hT2 hS2 hT1 hS1
    go_wp2
    go_ret
    exact hgg
set_option maxRecDepth 20000 in
set_option maxHeartbeats 3200000 in
theorem step_rem (B d r : Nat) (S : DS) (bs cs : List Nat) (k : Int) (x y : ByteArray) (n : Int) (A : Option Addr) (m cb : Nat) (w : World) (h : Two w B d r S S bs cs) (hk : -9223372036854775808 ≤ k ∧ k ≤ 9223372036854775807) (hj : pickI k 10 = 5) (hx : x.size ≤ 281474976710656) (hL : S.l.length < 1099511627776) (hB : B ≤ w.heap.size) :
    Calls Tryd.prog 15 #[.pointer (some ⟨d, 0, none⟩), .pointer (some ⟨r, 0, none⟩), .agg #[.int .i64 k, .string x, .string y, .int .i64 n, .slice A m cb]] w (Stepped w B d r bs cs (rem wrap64 S x.data.toList).2) := by
  refine calls_hid fun G hG => ?_
  have hP := fun w0 => pick_any k 10 w0 hk (by omega)
  rw [hj] at hP
  obtain ⟨wa, hwa⟩ : ∃ wa, wa = w.alloc (.cells #[.int .i64 k, .string x, .string y, .int .i64 n, .slice A m cb] 45) := ⟨_, rfl⟩
  have hxa : Ext w wa := by rw [hwa]; exact ext_alloc _ _
  have hRow : Row wa w.heap.size 45 (opc k x y n A m cb) := by rw [hwa]; exact Row.alloc w (opc k x y n A m cb) _
  have hbn := box_not h
  have p0 : wa.cell? ⟨w.heap.size, 0, none⟩ = some (.int .i64 k) := hRow.cell (i := 0) (by simp [opc])
  have p1 : wa.cell? ⟨w.heap.size, 1, none⟩ = some (.string x) := hRow.cell (i := 1) (by simp [opc])
  have p2 : wa.cell? ⟨w.heap.size, 2, none⟩ = some (.string y) := hRow.cell (i := 2) (by simp [opc])
  have p3 : wa.cell? ⟨w.heap.size, 3, none⟩ = some (.int .i64 n) := hRow.cell (i := 3) (by simp [opc])
  have p4 : wa.cell? ⟨w.heap.size, 4, none⟩ = some (.slice A m cb) := hRow.cell (i := 4) (by simp [opc])
  have hTa := h.ext hxa
  have hBa : B ≤ wa.heap.size := Nat.le_trans hB hxa.size
  have hg : ∀ w' bs' cs', Two w' B d r (rem wrap64 S x.data.toList).2 (rem wrap64 S x.data.toList).2 bs' cs' → Stp (bs ++ cs) (bs' ++ cs') wa w' → G (.returned (.bool true)) w' := fun w' bs' cs' h1 h2 => hG.out _ _ ⟨rfl, bs', cs', h1, Stp.after hxa h2⟩
  have hA := remove_dk x hTa.d hx
  have hC := fun w0 => code_err (dno_rem S x.data.toList) w0
  replace hg := Lib.hid hg
  replace hwa := Lib.hid hwa
  replace hTa := Lib.hid hTa
  clear hG h hRow hj
  go_enter Tryd.func15, Tryd.ntmps15
  go_wp2_with (first
    | (go_at_call 10; (rw [← hwa.out]; with_reducible refine (hP _).mono ?_); rintro e' w' ⟨rfl, rfl⟩)
    | (go_at_call 30; (with_reducible refine hA.mono ?_); rintro e' w1 ⟨rfl, hd1⟩; obtain ⟨bs1, hT1, hS1⟩ := hTa.out.onD hd1; have p1' := two_keep hS1 p1 hbn; have p2' := two_keep hS1 p2 hbn; have p3' := two_keep hS1 p3 hbn; have hB1 : B ≤ w1.heap.size := Nat.le_trans hBa hS1.k.size))
  go_region_law (first
    | (go_simp; go_at_call 24; (with_reducible refine (hC _).mono ?_); rintro e' w' ⟨rfl, rfl⟩)
    | (go_simp; go_at_call 31; (with_reducible refine (rremove_rk x (hT1.ext (ext_drew _)).r hL (Nat.le_trans hB1 (ext_drew _).size)).mono ?_); rintro e' w2 ⟨rfl, hd2⟩; obtain ⟨cs2, hT2, hS2⟩ := (hT1.ext (ext_drew _)).onR hd2))
  all_goals
    have hgg := hg.out _ _ _ hT2 (hS1.trans (Stp.after (ext_drew _) hS2))
    clear hg hT2 hS2 hT1 hS1
    go_wp2
    go_ret
    exact hgg
set_option maxRecDepth 20000 in
set_option maxHeartbeats 3200000 in
theorem step_cut (B d r : Nat) (S : DS) (bs cs : List Nat) (k : Int) (x y : ByteArray) (n : Int) (A : Option Addr) (m cb : Nat) (w : World) (h : Two w B d r S S bs cs) (hk : -9223372036854775808 ≤ k ∧ k ≤ 9223372036854775807) (hj : pickI k 10 = 6) (hx : x.size ≤ 281474976710656) (hL : S.l.length < 1099511627776) (hB : B ≤ w.heap.size) (hn : n ≤ 9223372036854775807) :
    Calls Tryd.prog 15 #[.pointer (some ⟨d, 0, none⟩), .pointer (some ⟨r, 0, none⟩), .agg #[.int .i64 k, .string x, .string y, .int .i64 n, .slice A m cb]] w (Stepped w B d r bs cs (cutd S n).2) := by
  refine calls_hid fun G hG => ?_
  have hP := fun w0 => pick_any k 10 w0 hk (by omega)
  rw [hj] at hP
  obtain ⟨wa, hwa⟩ : ∃ wa, wa = w.alloc (.cells #[.int .i64 k, .string x, .string y, .int .i64 n, .slice A m cb] 45) := ⟨_, rfl⟩
  have hxa : Ext w wa := by rw [hwa]; exact ext_alloc _ _
  have hRow : Row wa w.heap.size 45 (opc k x y n A m cb) := by rw [hwa]; exact Row.alloc w (opc k x y n A m cb) _
  have hbn := box_not h
  have p0 : wa.cell? ⟨w.heap.size, 0, none⟩ = some (.int .i64 k) := hRow.cell (i := 0) (by simp [opc])
  have p1 : wa.cell? ⟨w.heap.size, 1, none⟩ = some (.string x) := hRow.cell (i := 1) (by simp [opc])
  have p2 : wa.cell? ⟨w.heap.size, 2, none⟩ = some (.string y) := hRow.cell (i := 2) (by simp [opc])
  have p3 : wa.cell? ⟨w.heap.size, 3, none⟩ = some (.int .i64 n) := hRow.cell (i := 3) (by simp [opc])
  have p4 : wa.cell? ⟨w.heap.size, 4, none⟩ = some (.slice A m cb) := hRow.cell (i := 4) (by simp [opc])
  have hTa := h.ext hxa
  have hBa : B ≤ wa.heap.size := Nat.le_trans hB hxa.size
  have hg : ∀ w' bs' cs', Two w' B d r (cutd S n).2 (cutd S n).2 bs' cs' → Stp (bs ++ cs) (bs' ++ cs') wa w' → G (.returned (.bool true)) w' := fun w' bs' cs' h1 h2 => hG.out _ _ ⟨rfl, bs', cs', h1, Stp.after hxa h2⟩
  have hA := cut_dk n hTa.d hn
  have hC := fun w0 => code_err (dno_cut S n) w0
  replace hg := Lib.hid hg
  replace hwa := Lib.hid hwa
  replace hTa := Lib.hid hTa
  clear hG h hRow hj
  go_enter Tryd.func15, Tryd.ntmps15
  go_wp2_with (first
    | (go_at_call 10; (rw [← hwa.out]; with_reducible refine (hP _).mono ?_); rintro e' w' ⟨rfl, rfl⟩)
    | (go_at_call 9; (with_reducible refine hA.mono ?_); rintro e' w1 ⟨rfl, hd1⟩; obtain ⟨bs1, hT1, hS1⟩ := hTa.out.onD hd1; have p1' := two_keep hS1 p1 hbn; have p2' := two_keep hS1 p2 hbn; have p3' := two_keep hS1 p3 hbn; have hB1 : B ≤ w1.heap.size := Nat.le_trans hBa hS1.k.size))
  go_region_law (first
    | (go_simp; go_at_call 24; (with_reducible refine (hC _).mono ?_); rintro e' w' ⟨rfl, rfl⟩)
    | (go_simp; go_at_call 32; (with_reducible refine (rcut_rk n (hT1.ext (ext_drew _)).r hn).mono ?_); rintro e' w2 ⟨rfl, hd2⟩; obtain ⟨cs2, hT2, hS2⟩ := (hT1.ext (ext_drew _)).onR hd2))
  all_goals
    have hgg := hg.out _ _ _ hT2 (hS1.trans (Stp.after (ext_drew _) hS2))
    clear hg hT2 hS2 hT1 hS1
    go_wp2
    go_ret
    exact hgg
set_option maxRecDepth 20000 in
set_option maxHeartbeats 3200000 in
theorem step_pow (B d r : Nat) (S : DS) (bs cs : List Nat) (k : Int) (x y : ByteArray) (n : Int) (A : Option Addr) (m cb : Nat) (w : World) (h : Two w B d r S S bs cs) (hk : -9223372036854775808 ≤ k ∧ k ≤ 9223372036854775807) (hj : pickI k 10 = 7) (hx : x.size ≤ 281474976710656) (hL : S.l.length < 1099511627776) (hB : B ≤ w.heap.size) (hn : -9223372036854775808 ≤ n ∧ n ≤ 9223372036854775807) :
    Calls Tryd.prog 15 #[.pointer (some ⟨d, 0, none⟩), .pointer (some ⟨r, 0, none⟩), .agg #[.int .i64 k, .string x, .string y, .int .i64 n, .slice A m cb]] w (Stepped w B d r bs cs (Dk.pow S n)) := by
  refine calls_hid fun G hG => ?_
  have hP := fun w0 => pick_any k 10 w0 hk (by omega)
  rw [hj] at hP
  obtain ⟨wa, hwa⟩ : ∃ wa, wa = w.alloc (.cells #[.int .i64 k, .string x, .string y, .int .i64 n, .slice A m cb] 45) := ⟨_, rfl⟩
  have hxa : Ext w wa := by rw [hwa]; exact ext_alloc _ _
  have hRow : Row wa w.heap.size 45 (opc k x y n A m cb) := by rw [hwa]; exact Row.alloc w (opc k x y n A m cb) _
  have hbn := box_not h
  have p0 : wa.cell? ⟨w.heap.size, 0, none⟩ = some (.int .i64 k) := hRow.cell (i := 0) (by simp [opc])
  have p1 : wa.cell? ⟨w.heap.size, 1, none⟩ = some (.string x) := hRow.cell (i := 1) (by simp [opc])
  have p2 : wa.cell? ⟨w.heap.size, 2, none⟩ = some (.string y) := hRow.cell (i := 2) (by simp [opc])
  have p3 : wa.cell? ⟨w.heap.size, 3, none⟩ = some (.int .i64 n) := hRow.cell (i := 3) (by simp [opc])
  have p4 : wa.cell? ⟨w.heap.size, 4, none⟩ = some (.slice A m cb) := hRow.cell (i := 4) (by simp [opc])
  have hTa := h.ext hxa
  have hBa : B ≤ wa.heap.size := Nat.le_trans hB hxa.size
  have hg : ∀ w' bs' cs', Two w' B d r (Dk.pow S n) (Dk.pow S n) bs' cs' → Stp (bs ++ cs) (bs' ++ cs') wa w' → G (.returned (.bool true)) w' := fun w' bs' cs' h1 h2 => hG.out _ _ ⟨rfl, bs', cs', h1, Stp.after hxa h2⟩
  have hA := power_dk n hTa.d hn
  replace hg := Lib.hid hg
  replace hwa := Lib.hid hwa
  replace hTa := Lib.hid hTa
  clear hG h hRow hj
  go_enter Tryd.func15, Tryd.ntmps15
  go_wp2_with (first
    | (go_at_call 10; (rw [← hwa.out]; with_reducible refine (hP _).mono ?_); rintro e' w' ⟨rfl, rfl⟩)
    | (go_at_call 11; (with_reducible refine hA.mono ?_); rintro e' w1 ⟨rfl, hd1⟩; obtain ⟨bs1, hT1, hS1⟩ := hTa.out.onD hd1; have p3' := two_keep hS1 p3 hbn; have hR := rpower_rk n hT1.r hL hn)
    | (go_at_call 33; (with_reducible refine hR.mono ?_); rintro e' w2 ⟨rfl, hd2⟩; obtain ⟨cs2, hT2, hS2⟩ := hT1.onR hd2))
  exact hg.out _ _ _ hT2 (hS1.trans hS2)
end Go.Proofs.YtkgnaabmcboffaaDoor
