/-
  Texts of the lemmas below the claim, put together: KvC KvQ.
-/
import Derived.Test.YtjnbbfhoegeppaaGreatDoorMKvB
import Derived.Test.YtjnbbfhoegeppaaGreatDoorMWalF
section
/-
  Walks of the store: a batch's record.
-/
set_option linter.unusedSimpArgs false
set_option linter.unusedVariables false
namespace Go.Proofs.YtjnbbfhoegeppaaGreatDoor
open Go.RowKit Go.Cv Go.Cv.Dk Go.Cv.Wal Go.Cv.Kv
/-- A write in memory. -/
structure WV where
  k : ByteArray
  A : Option Addr
  c : Nat
  v : List UInt8
  d : Bool
def WV.cells (x : WV) : List Value := [.string x.k, .slice x.A x.v.length x.c, .bool x.d]
def WV.pw (x : WV) : PW := ⟨x.k.data.toList, x.v, x.d⟩
structure WV.Ok (w : World) (x : WV) : Prop where
  rd : Rd w x.A (x.v.map bv)
  nl : x.A = none → x.c = 0
  kb : x.k.size ≤ 1099511627776
  vb : x.v.length ≤ 1099511627776
theorem WV.Ok.ext {w w' : World} {x : WV} (h : x.Ok w) (hx : Ext w w') : x.Ok w' := ⟨h.rd.ext hx, h.nl, h.kb, h.vb⟩
structure WsAt (w : World) (A : Option Addr) (L : List WV) : Prop where
  rd : Rd w A (L.flatMap WV.cells)
  ok : ∀ x ∈ L, x.Ok w
theorem WsAt.ext {w w' : World} {A : Option Addr} {L : List WV} (h : WsAt w A L) (hx : Ext w w') : WsAt w' A L := ⟨h.rd.ext hx, fun x hm => (h.ok x hm).ext hx⟩
theorem wcells_len (L : List WV) : (L.flatMap WV.cells).length = L.length * 3 := by
  induction L with
  | nil => rfl
  | cons e r ih => rw [List.flatMap_cons, List.length_append, ih, List.length_cons]; simp [WV.cells]; omega
theorem wcells_at {L : List WV} {k j : Nat} (h : k < L.length) (hj : j < 3) : (L.flatMap WV.cells)[k * 3 + j]? = (L[k].cells)[j]? := by
  obtain ⟨l1, x, l2, hL, hl, _, _⟩ := split_at h
  have e : L[k] = x := by
    have h1 : L[k]? = some x := by rw [hL, List.getElem?_append_right (by omega), hl, Nat.sub_self]; rfl
    rw [List.getElem?_eq_getElem h] at h1
    injection h1
  rw [e, hL, List.flatMap_append, List.flatMap_cons, List.getElem?_append_right (by rw [wcells_len, hl]; omega), wcells_len, hl, Nat.add_sub_cancel_left, List.getElem?_append_left (by simpa [WV.cells] using hj)]
/-- The cells of one write. -/
theorem WsAt.at {w : World} {A : Option Addr} {L : List WV} (h : WsAt w A L) {k : Nat} (hk : k < L.length) : ∃ ad, A = some ad ∧ w.cell? (ad.add (k * 3)) = some (.string L[k].k) ∧
    w.cell? ⟨(ad.add (k * 3)).block, (ad.add (k * 3)).off + 1, none⟩ = some (.slice L[k].A L[k].v.length L[k].c) ∧ w.cell? ⟨(ad.add (k * 3)).block, (ad.add (k * 3)).off + 2, none⟩ = some (.bool L[k].d) := by
  obtain ⟨ad, rfl, h0⟩ := h.rd (k * 3 + 0) (.string L[k].k) (by rw [wcells_at hk (by omega)]; rfl)
  refine ⟨ad, rfl, h0, ?_, ?_⟩
  · obtain ⟨ad', e, h1⟩ := h.rd (k * 3 + 1) (.slice L[k].A L[k].v.length L[k].c) (by rw [wcells_at hk (by omega)]; rfl)
    injection e with e
    subst e
    rw [← Cv.add_add] at h1
    exact h1
  · obtain ⟨ad', e, h1⟩ := h.rd (k * 3 + 2) (.bool L[k].d) (by rw [wcells_at hk (by omega)]; rfl)
    injection e with e
    subst e
    rw [← Cv.add_add] at h1
    exact h1
theorem encs_snoc {L : List WV} {k : Nat} (h : k < L.length) : ((L.take (k + 1)).map WV.pw).flatMap encW = ((L.take k).map WV.pw).flatMap encW ++ encW L[k].pw := by
  rw [List.take_succ_eq_append_getElem h, List.map_append, List.flatMap_append]
  simp
/-- A write in a box of the loop's own, beside a row that grows. -/
structure Bx (w0 w : World) (bx : Nat) (x : WV) (A : Option Addr) : Prop where
  row : Row w bx 45 x.cells
  nm : bx ∉ rowOf A
  ex : Ext w0 w
theorem Bx.step {w0 w w' : World} {bx : Nat} {x : WV} {A A' : Option Addr} (h : Bx w0 w bx x A) (hA : ∀ y ∈ rowOf A, w0.heap.size ≤ y) (hS : Stp (rowOf A) (rowOf A') w w') : Bx w0 w' bx x A' :=
  ⟨h.row.keep hS.k h.nm, hS.not h.row.lt h.nm, ext_keep h.ex hS.k hA⟩
theorem Bx.ext {w0 w w' : World} {bx : Nat} {x : WV} {A : Option Addr} (h : Bx w0 w bx x A) (hx : Ext w w') : Bx w0 w' bx x A := ⟨h.row.ext hx, h.nm, h.ex.trans hx⟩
theorem Bx.c0 {w0 w : World} {bx : Nat} {x : WV} {A : Option Addr} (h : Bx w0 w bx x A) : w.cell? ⟨bx, 0, none⟩ = some (.string x.k) := h.row.cell (i := 0) (by simp [WV.cells])
theorem Bx.c1 {w0 w : World} {bx : Nat} {x : WV} {A : Option Addr} (h : Bx w0 w bx x A) : w.cell? ⟨bx, 1, none⟩ = some (.slice x.A x.v.length x.c) := h.row.cell (i := 1) (by simp [WV.cells])
theorem Bx.c2 {w0 w : World} {bx : Nat} {x : WV} {A : Option Addr} (h : Bx w0 w bx x A) : w.cell? ⟨bx, 2, none⟩ = some (.bool x.d) := h.row.cell (i := 2) (by simp [WV.cells])
theorem Bx.start {w0 w : World} {x : WV} {A : Option Addr} (hx : Ext w0 w) (hA : ∀ y ∈ rowOf A, y < w.heap.size) : Bx w0 (w.alloc (.cells #[.string x.k, .slice x.A x.v.length x.c, .bool x.d] 45)) w.heap.size x A :=
  ⟨Row.alloc w x.cells _, fun hm => by have := hA _ hm; omega, hx.trans (ext_alloc _ _)⟩
set_option maxRecDepth 4000 in
set_option maxHeartbeats 3200000 in
theorem pbatch_any (A : Option Addr) (c : Nat) (L : List WV) (n : Nat) (w : World) (h : WsAt w A L) (hn : n < 9223372036854775808) (hL : L.length ≤ 1048576) (hb : (recB n (L.map WV.pw)).length ≤ 70368744177664) :
    Calls Tryz.prog 36 #[.int .i64 n, .slice A L.length c] w (RetBytes w (recB n (L.map WV.pw)).length (recB n (L.map WV.pw))) := by
  refine calls_hid fun G hG => ?_
  have hB1 := pnumb8 w.heap.size none 0 0 [] n w (World.ownsRow_nil w _ _ _) (Nat.le_refl _) (by omega) (by omega)
  go_enter Tryz.func36, Tryz.ntmps36
  go_wp2_with (first
    | (go_at_call 64; (with_reducible refine hB1.mono ?_); rintro e' w1 ⟨A1, c1, q1, rfl, ho1, hS1⟩; have hq1 := own_q ho1; have hB2 := pnumb2 w.heap.size A1 q1 c1 _ L.length w1 ho1 hS1.k.size (by omega) (by rw [← hq1]; simp [leN_len]); replace hq1 := Lib.hid hq1)
    | (go_at_call 64; (with_reducible refine (hB2).mono ?_); rintro e' w2 ⟨A2, c2, q2, rfl, ho2, hS2⟩))
  have hE2 := ext_keep (Ext.refl w) (hS1.trans hS2).k (by simp [rowOf])
  have hgo : ∀ A' c' q wr, wr.ownsRow w.heap.size 5 1 (.slice A' q c') q ((recB n (L.map WV.pw)).map bv) → Ext w wr → G (.returned (.slice A' q c')) wr := fun A' c' q wr h1 h2 => by
    have hq := own_q h1
    subst hq
    exact hG.out _ _ (RetBytes.mk_ h2 h1)
  replace hgo := Lib.hid hgo
  clear hB1 hB2 hS1 hS2 hG hq1 ho1
  go_loopw [5, 7, 18] (fun b _ i wr => ∃ (k : Nat) (A' : Option Addr) (c' q : Nat), k ≤ L.length ∧ i = .int .i64 k ∧ b = .slice A' q c' ∧ wr.ownsRow w.heap.size 5 1 (.slice A' q c') q ((leN 8 n ++ (leN 2 L.length ++ ((L.take k).map WV.pw).flatMap encW)).map bv) ∧ Hid (Ext w wr)) (fun _ _ i _ => L.length - (intOf i).toNat)
  case atStart => exact ⟨0, A2, c2, q2, Nat.zero_le _, rfl, rfl, by simpa using ho2, Lib.hid hE2⟩
  case round =>
    obtain ⟨k, A', c', q, hk, rfl, rfl, ho, hE⟩ := hrel
    by_cases hlt : k < L.length
    · obtain ⟨ad, rfl, p0, p1, p2⟩ := (h.ext hE.out).at hlt
      have hx := (h.ok _ (List.getElem_mem hlt)).ext hE.out
      have hnext := encs_snoc hlt
      have hrdx : ∀ w', Ext w w' → Rd w' L[k].A (L[k].v.map bv) := fun w' hw => (h.ok _ (List.getElem_mem hlt)).rd.ext hw
      have hlen : q ≤ 70368744177664 := by
        rw [← own_q ho]
        refine Nat.le_trans ?_ hb
        unfold recB
        simp only [List.length_append, leN_len, List.length_map]
        have : ((L.take k).map WV.pw).flatMap encW <+: (L.map WV.pw).flatMap encW := by
          refine ⟨((L.drop k).map WV.pw).flatMap encW, ?_⟩
          rw [← List.flatMap_append, ← List.map_append, List.take_append_drop]
        have := this.length_le
        omega
      have hB0 := Bx.start (x := L[k]) hE.out (row_lt ho)
      generalize L[k] = x at *
      have hkb := hx.kb
      have hvb := hx.vb
      have hrd0 := hx.rd
      have hbs := hE.out.size
      have hN1 := pnumb1 w.heap.size A' q c' _ x.k.size _ (own_ext ho (ext_alloc wr (.cells #[.string x.k, .slice x.A x.v.length x.c, .bool x.d] 45))) hB0.ex.size (by omega) (by omega)
      have hA' := base_le ho
      rcases hd : x.d with _ | _
      · rw [hd] at p2 hB0 hN1
        have hnx : leN 8 n ++ (leN 2 L.length ++ ((L.take (k + 1)).map WV.pw).flatMap encW) = leN 8 n ++ (leN 2 L.length ++ ((L.take k).map WV.pw).flatMap encW) ++ leN 1 x.k.size ++ x.k.data.toList ++ [0] ++ leN 4 x.v.length ++ x.v := by
          rw [hnext]
          simp [encW, WV.pw, hd, leN]
        generalize leN 8 n ++ (leN 2 L.length ++ ((L.take k).map WV.pw).flatMap encW) = xs at *
        replace hnx := Lib.hid hnx
        replace hd := Lib.hid hd
        clear hnext
        go_wp2_with (first
          | (go_at_call 64; (with_reducible refine hN1.mono ?_); rintro e' w3 ⟨A3, c3, q3, rfl, ho3, hS3⟩; have hB3 := hB0.step hA' hS3; have m0 := hB3.c0; have hq3 : q3 ≤ q + 1 := Nat.le_of_eq (q_app ho ho3))
          | (at_builtin; refine wpList_appstr rfl (.tmp 28) (.tmp 30) 43 9 5 rfl Tryz.underlying43 Tryz.underlying9 u8info w.heap.size A3 q3 c3 _ rfl ho3 x.k rfl (by omega) hB3.ex.size ?_; intro A4 c4 w4 ho4 hS4; have hB4 := hB3.step (base_le ho3) hS4; have m2 := hB4.c2; rw [hd.out] at m2)
          | (at_builtin; refine wpList_appS rfl (.tmp 37) (.tmp 38) 43 5 rfl u8rowD w.heap.size A4 (q3 + x.k.size) c4 _ rfl (own_ext ho4 (ext_alloc _ _)) (some ⟨_, 0, none⟩) 1 1 [0] rfl rfl (rd_b _ 0 0 _ rfl) (by omega) (hB4.ext (ext_alloc _ _)).ex.size ?_; intro A5 c5 w5 ho5 hS5; have hB5 := (hB4.ext (ext_alloc _ _)).step (base_le ho4) hS5; have m1 := hB5.c1; have hN4 := pnumb4 w.heap.size A5 (q3 + x.k.size + 1) c5 _ x.v.length w5 ho5 hB5.ex.size (by omega) (by omega))
          | (go_at_call 64; (with_reducible refine hN4.mono ?_); rintro e' w6 ⟨A6, c6, q6, rfl, ho6, hS6⟩; have hB6 := hB5.step (base_le ho5) hS6; have r1 := hB6.c1; have hq6 : q6 ≤ q3 + x.k.size + 1 + 4 := Nat.le_of_eq (q_app ho5 ho6))
          | (at_builtin; refine wpList_appS rfl (.tmp 46) (.tmp 48) 43 5 rfl u8rowD w.heap.size A6 q6 c6 _ rfl ho6 x.A x.v.length x.c x.v rfl rfl (hrdx _ hB6.ex) (by omega) hB6.ex.size ?_; intro A7 c7 w7 ho7 hS7; have hB7 := hB6.step (base_le ho6) hS7))
        go_roundw
        case rel => exact ⟨k + 1, A7, c7, _, hlt, by go_num, rfl, by rw [hnx.out]; exact ho7, Lib.hid hB7.ex⟩
        case measure => simp [intOf]; omega
      · rw [hd] at p2 hB0 hN1
        have hnx : leN 8 n ++ (leN 2 L.length ++ ((L.take (k + 1)).map WV.pw).flatMap encW) = leN 8 n ++ (leN 2 L.length ++ ((L.take k).map WV.pw).flatMap encW) ++ leN 1 x.k.size ++ x.k.data.toList ++ [1] := by
          rw [hnext]
          simp [encW, WV.pw, hd, leN]
        generalize leN 8 n ++ (leN 2 L.length ++ ((L.take k).map WV.pw).flatMap encW) = xs at *
        replace hnx := Lib.hid hnx
        replace hd := Lib.hid hd
        clear hnext
        go_wp2_with (first
          | (go_at_call 64; (with_reducible refine hN1.mono ?_); rintro e' w3 ⟨A3, c3, q3, rfl, ho3, hS3⟩; have hB3 := hB0.step hA' hS3; have m0 := hB3.c0; have hq3 : q3 ≤ q + 1 := Nat.le_of_eq (q_app ho ho3))
          | (at_builtin; refine wpList_appstr rfl (.tmp 28) (.tmp 30) 43 9 5 rfl Tryz.underlying43 Tryz.underlying9 u8info w.heap.size A3 q3 c3 _ rfl ho3 x.k rfl (by omega) hB3.ex.size ?_; intro A4 c4 w4 ho4 hS4; have hB4 := hB3.step (base_le ho3) hS4; have m2 := hB4.c2; rw [hd.out] at m2)
          | (at_builtin; refine wpList_appS rfl (.tmp 34) (.tmp 35) 43 5 rfl u8rowD w.heap.size A4 (q3 + x.k.size) c4 _ rfl (own_ext ho4 (ext_alloc _ _)) (some ⟨_, 0, none⟩) 1 1 [1] rfl rfl (rd_b _ 1 1 _ rfl) (by omega) (hB4.ext (ext_alloc _ _)).ex.size ?_; intro A5 c5 w5 ho5 hS5; have hB5 := (hB4.ext (ext_alloc _ _)).step (base_le ho4) hS5))
        go_roundw
        case rel => exact ⟨k + 1, A5, c5, _, hlt, by go_num, rfl, by rw [hnx.out]; exact ho5, Lib.hid hB5.ex⟩
        case measure => simp [intOf]; omega
    · obtain rfl : k = L.length := by omega
      rw [List.take_length] at ho
      go_wp2
      exact hgo.out _ _ _ _ (by unfold recB; rw [List.length_map]; exact ho) hE.out
end Go.Proofs.YtjnbbfhoegeppaaGreatDoor
end
section
/-
  The readers in plain words: what they take, step by step, and what the bytes tell.
-/
set_option linter.unusedSimpArgs false
set_option linter.unusedVariables false
namespace Go.Cv.Kv
open Go Go.Cv.Dk
theorem tk_S (n : Nat) (b : List UInt8) : tk n b = if (tkS n b).2.2 then none else some ((tkS n b).1, (tkS n b).2.1) := by
  unfold tk tkS
  split <;> simp
theorem nm_S (n : Nat) (b : List UInt8) : nm n b = if (tkS n b).2.2 then none else some (num (tkS n b).1, (tkS n b).2.1) := by
  unfold nm
  rw [tk_S]
  split <;> simp
theorem keyD_S (b : List UInt8) : keyD b = if (keyS b).2.2 then none else some ((keyS b).1, (keyS b).2.1) := by
  unfold keyD keyS
  rw [nm_S]
  simp only
  cases (tkS 1 b).2.2
  · simp only [Bool.false_eq_true, if_false, Option.bind_some, Bool.false_or]
    by_cases h0 : num (tkS 1 b).1 = 0
    · simp [h0]
    · rw [if_neg h0, tk_S]
      have : (num (tkS 1 b).1 == 0) = false := by simpa using h0
      rw [this, Bool.false_or]
  · simp
theorem valD_S (b : List UInt8) : valD b = if (valS b).2.2 then none else some ((valS b).1, (valS b).2.1) := by
  unfold valD valS
  rw [nm_S]
  by_cases h0 : 262144 < num (tkS 4 b).1
  · rw [if_pos h0]
    cases (tkS 4 b).2.2 <;> simp [h0]
  · rw [if_neg h0]
    simp only
    cases (tkS 4 b).2.2
    · simp only [Bool.false_eq_true, if_false, Option.bind_some, Bool.false_or, h0]
      rw [tk_S]
    · simp
/-- One write, as the program's reader goes. -/
def wrtS (b : List UInt8) : PW × List UInt8 × Bool :=
  if num (tkS 1 (keyS b).2.1).1 = 0 then (⟨(keyS b).1, (valS (tkS 1 (keyS b).2.1).2.1).1, false⟩, (valS (tkS 1 (keyS b).2.1).2.1).2.1, ((keyS b).2.2 || (tkS 1 (keyS b).2.1).2.2) || (valS (tkS 1 (keyS b).2.1).2.1).2.2)
  else if num (tkS 1 (keyS b).2.1).1 = 1 then (⟨(keyS b).1, [], true⟩, (tkS 1 (keyS b).2.1).2.1, (keyS b).2.2 || (tkS 1 (keyS b).2.1).2.2)
  else (⟨(keyS b).1, [], false⟩, (tkS 1 (keyS b).2.1).2.1, true)
theorem wrtS0 {b : List UInt8} (h : num (tkS 1 (keyS b).2.1).1 = 0) : wrtS b = (⟨(keyS b).1, (valS (tkS 1 (keyS b).2.1).2.1).1, false⟩, (valS (tkS 1 (keyS b).2.1).2.1).2.1, ((keyS b).2.2 || (tkS 1 (keyS b).2.1).2.2) || (valS (tkS 1 (keyS b).2.1).2.1).2.2) := if_pos h
theorem wrtS1 {b : List UInt8} (h : num (tkS 1 (keyS b).2.1).1 = 1) : wrtS b = (⟨(keyS b).1, [], true⟩, (tkS 1 (keyS b).2.1).2.1, (keyS b).2.2 || (tkS 1 (keyS b).2.1).2.2) := by
  unfold wrtS; rw [if_neg (by omega), if_pos h]
theorem wrtS2 {b : List UInt8} (h0 : ¬ num (tkS 1 (keyS b).2.1).1 = 0) (h1 : ¬ num (tkS 1 (keyS b).2.1).1 = 1) : wrtS b = (⟨(keyS b).1, [], false⟩, (tkS 1 (keyS b).2.1).2.1, true) := by
  unfold wrtS; rw [if_neg h0, if_neg h1]
theorem wrtD_S (b : List UInt8) : wrtD b = if (wrtS b).2.2 then none else some ((wrtS b).1, (wrtS b).2.1) := by
  unfold wrtD wrtS
  rw [keyD_S]
  cases (keyS b).2.2
  · simp only [Bool.false_eq_true, if_false, Option.bind_some, Bool.false_or]
    rw [nm_S]
    cases (tkS 1 (keyS b).2.1).2.2
    · simp only [Bool.false_eq_true, if_false, Option.bind_some, Bool.false_or]
      by_cases h0 : num (tkS 1 (keyS b).2.1).1 = 0
      · rw [if_pos h0, if_pos h0, valD_S]
        simp only
        cases (valS (tkS 1 (keyS b).2.1).2.1).2.2 <;> simp
      · rw [if_neg h0, if_neg h0]
        by_cases h1 : num (tkS 1 (keyS b).2.1).1 = 1
        · rw [if_pos h1, if_pos h1]; simp
        · rw [if_neg h1, if_neg h1]; simp
    · simp only [if_true, Option.bind_none, Bool.true_or]
      split
      · simp
      · split <;> simp
  · simp only [if_true, Option.bind_none, Bool.true_or]
    split
    · simp
    · split <;> simp
/-- What a loop over n writes has done: k of them, with the bytes b left. -/
def WProg (n : Nat) (b0 : List UInt8) (k : Nat) (W : List PW) (b : List UInt8) (bad : Bool) : Prop :=
  W.length = k ∧ if bad then wrtsD n b0 = none else wrtsD n b0 = (wrtsD (n - k) b).map fun y => (W ++ y.1, y.2)
theorem WProg.start (n : Nat) (b : List UInt8) : WProg n b 0 [] b false := ⟨rfl, by simp⟩
theorem WProg.step {n k : Nat} {b0 b : List UInt8} {W : List PW} (h : WProg n b0 k W b false) (hk : k < n) : WProg n b0 (k + 1) (W ++ [(wrtS b).1]) (wrtS b).2.1 (wrtS b).2.2 := by
  refine ⟨by rw [List.length_append, h.1]; rfl, ?_⟩
  have h2 := h.2
  simp only [Bool.false_eq_true, if_false] at h2
  have e : n - k = (n - (k + 1)) + 1 := by omega
  rw [h2, e, wrtsD, wrtD_S]
  cases (wrtS b).2.2
  · simp only [Bool.false_eq_true, if_false, Option.bind_some, Option.map_map]
    congr 1
    funext y
    simp
  · simp
theorem WProg.done {n : Nat} {b0 b : List UInt8} {W : List PW} (h : WProg n b0 n W b false) : wrtsD n b0 = some (W, b) := by
  have h2 := h.2
  simp only [Bool.false_eq_true, if_false, Nat.sub_self] at h2
  rw [h2]
  simp [wrtsD]
theorem batD_S (r : List UInt8) : batD r = if ((tkS 8 r).2.2 || (tkS 2 (tkS 8 r).2.1).2.2) then none else (wrtsD (num (tkS 2 (tkS 8 r).2.1).1) (tkS 2 (tkS 8 r).2.1).2.1).bind fun z => if z.2 = [] ∧ 1 ≤ num (tkS 2 (tkS 8 r).2.1).1 ∧ num (tkS 2 (tkS 8 r).2.1).1 ≤ 4096 then some (num (tkS 8 r).1, z.1) else none := by
  unfold batD
  rw [nm_S]
  cases (tkS 8 r).2.2
  · simp only [Bool.false_eq_true, if_false, Option.bind_some, Bool.false_or]
    rw [nm_S]
    cases (tkS 2 (tkS 8 r).2.1).2.2 <;> simp
  · simp
theorem wrtsD_len : ∀ {n : Nat} {b : List UInt8} {z : List PW × List UInt8}, wrtsD n b = some z → z.1.length = n
  | 0, b, z, h => by simp [wrtsD] at h; rw [← h]; rfl
  | n + 1, b, z, h => by
    simp only [wrtsD, Option.bind_eq_some_iff, Option.map_eq_some_iff] at h
    obtain ⟨x, _, y, hy, rfl⟩ := h
    simp [wrtsD_len hy]
/-- One pair, as the program's reader goes. -/
def prS (b : List UInt8) : List UInt8 × List UInt8 × List UInt8 × Bool :=
  ((keyS b).1, (valS (keyS b).2.1).1, (valS (keyS b).2.1).2.1, (keyS b).2.2 || (valS (keyS b).2.1).2.2)
theorem prD_S (last b : List UInt8) : prD last b = if (prS b).2.2.2 = false ∧ bytesBefore last (prS b).1 = true then some (⟨(prS b).1, (prS b).2.1⟩, (prS b).2.2.1) else none := by
  unfold prD prS
  rw [keyD_S]
  cases (keyS b).2.2
  · simp only [Bool.false_eq_true, if_false, Option.bind_some, Bool.false_or]
    rw [valD_S]
    cases (valS (keyS b).2.1).2.2 <;> simp
  · simp
/-- What a loop over n pairs has done. -/
def PProg (n : Nat) (b0 : List UInt8) (k : Nat) (L : List PP) (b : List UInt8) : Prop :=
  L.length = k ∧ prsD n [] b0 = (prsD (n - k) ((L.getLast?.map PP.k).getD []) b).map fun y => (L ++ y.1, y.2)
theorem PProg.start (n : Nat) (b : List UInt8) : PProg n b 0 [] b := ⟨rfl, by simp⟩
theorem PProg.step {n k : Nat} {b0 b : List UInt8} {L : List PP} (h : PProg n b0 k L b) (hk : k < n) (h1 : (prS b).2.2.2 = false) (h2 : bytesBefore ((L.getLast?.map PP.k).getD []) (prS b).1 = true) :
    PProg n b0 (k + 1) (L ++ [⟨(prS b).1, (prS b).2.1⟩]) (prS b).2.2.1 := by
  refine ⟨by rw [List.length_append, h.1]; rfl, ?_⟩
  have e : n - k = (n - (k + 1)) + 1 := by omega
  rw [h.2, e, prsD, prD_S, if_pos ⟨h1, h2⟩]
  simp only [Option.bind_some, Option.map_map, List.getLast?_append, List.getLast?_singleton, Option.some_or, Option.map_some, Option.getD_some]
  congr 1
  funext y
  simp
theorem PProg.bad {n k : Nat} {b0 b : List UInt8} {L : List PP} (h : PProg n b0 k L b) (hk : k < n) (h1 : ¬ ((prS b).2.2.2 = false ∧ bytesBefore ((L.getLast?.map PP.k).getD []) (prS b).1 = true)) : prsD n [] b0 = none := by
  have e : n - k = (n - (k + 1)) + 1 := by omega
  rw [h.2, e, prsD, prD_S, if_neg h1]
  rfl
theorem PProg.done {n : Nat} {b0 b : List UInt8} {L : List PP} (h : PProg n b0 n L b) : prsD n [] b0 = some (L, b) := by
  rw [h.2, Nat.sub_self]
  simp [prsD]
theorem snpD_S (r : List UInt8) : snpD r = if ((tkS 8 r).2.2 || (tkS 4 (tkS 8 r).2.1).2.2) then none else (prsD (num (tkS 4 (tkS 8 r).2.1).1) [] (tkS 4 (tkS 8 r).2.1).2.1).bind fun z => if z.2 = [] ∧ num (tkS 8 r).1 ≤ 4611686018427387904 then some ⟨z.1, num (tkS 8 r).1⟩ else none := by
  unfold snpD
  rw [nm_S]
  cases (tkS 8 r).2.2
  · simp only [Bool.false_eq_true, if_false, Option.bind_some, Bool.false_or]
    rw [nm_S]
    cases (tkS 4 (tkS 8 r).2.1).2.2 <;> simp
  · simp
end Go.Cv.Kv
end
