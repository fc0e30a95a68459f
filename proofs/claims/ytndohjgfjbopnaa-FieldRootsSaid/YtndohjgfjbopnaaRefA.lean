/-
  Walks of the document's answer: digits told as bytes.
-/
import Derived.Test.YtndohjgfjbopnaaSure
import Derived.Test.YtndohjgfjbopnaaDig
set_option linter.unusedSimpArgs false
set_option linter.unusedVariables false
namespace Go.Cv.Dig
open Go.RowKit
theorem dval_digit {l : List Nat} (h : Small l) (q : Nat) : dval l / 16777216 ^ q % 16777216 = dg l q := by
  by_cases hq : q < l.length
  · have h1 := lo_hi l (i := q) (by omega)
    have h2 := lo_lt h q
    have h3 := hi_cons hq
    have h4 := h.dg q
    rw [h1, Nat.add_comm, Nat.mul_add_div (Nat.pow_pos (by decide)), Nat.div_eq_of_lt h2, h3]
    omega
  · rw [dg_ge (by omega)]
    have h2 := h.lt
    have h3 : 16777216 ^ l.length ≤ 16777216 ^ q := Nat.pow_le_pow_right (by decide) (by omega)
    rw [Nat.div_eq_of_lt (by omega)]
/-- The byte of a number's digit. -/
theorem digit_byte {l : List Nat} (h : Small l) (j : Nat) : nb (dval l) j = UInt8.ofNat (dg l (j / 3) / 256 ^ (j % 3)) := by
  have hd := dval_digit h (j / 3)
  apply UInt8.toNat_inj.1
  unfold nb
  rw [UInt8.toNat_ofNat', UInt8.toNat_ofNat']
  have e : 2 ^ (8 * j) = 16777216 ^ (j / 3) * 2 ^ (8 * (j % 3)) := by
    rw [show (16777216 : Nat) = 2 ^ 24 from rfl, ← Nat.pow_mul, ← Nat.pow_add]
    congr 1
    omega
  have e2 : (256 : Nat) ^ (j % 3) = 2 ^ (8 * (j % 3)) := by rw [show (256 : Nat) = 2 ^ 8 from rfl, ← Nat.pow_mul]
  rw [e, e2, ← Nat.div_div_eq_div_mul, ← hd]
  generalize dval l / 16777216 ^ (j / 3) = X
  rcases (by omega : j % 3 = 0 ∨ j % 3 = 1 ∨ j % 3 = 2) with h0 | h0 | h0 <;> rw [h0] <;> omega
/-- The prime's digits. -/
def pdig : List Nat := [16777197, 16777215, 16777215, 16777215, 16777215, 16777215, 16777215, 16777215, 16777215, 16777215, 32767]
theorem pdig_val : dval pdig = 2 ^ 255 - 19 := by decide
theorem pdig_canon : Canon pdig := ⟨by unfold Small pdig; decide, by decide⟩
end Go.Cv.Dig
namespace Go.Proofs.Ytndohjgfjbopnaa
open Go.RowKit Go.Cv Go.Cv.Dig

set_option maxHeartbeats 400000 in
theorem digit_any (A : Option Addr) (n cap : Nat) (l : List Nat) (i : Nat) (w : World) (hn : l.length = n) (hr : Rd w A (l.map iv)) (hm : n ≤ 140737488355328) (hi : i < 4611686018427387904) :
    Calls Try.prog 61 #[.slice A n cap, .int .i64 i] w fun e w' => e = .returned (iv (dg l i)) ∧ w' = w := by
  subst hn
  by_cases hlt : i < l.length
  · obtain ⟨ad, rfl, hc⟩ := hr.at_ (k := i) (by simpa using hlt)
    rw [List.getElem_map] at hc
    have hd : iv (dg l i) = iv l[i] := by rw [dg_lt hlt]
    go_enter Try.func61, Try.ntmps61
    go_wp2
    go_ret
    exact ⟨by rw [hd]; rfl, rfl⟩
  · have hd : iv (dg l i) = iv 0 := by rw [dg_ge (by omega)]
    go_enter Try.func61, Try.ntmps61
    go_wp2
    go_ret
    exact ⟨by rw [hd]; rfl, rfl⟩

theorem digit_third (A : Option Addr) (n cap : Nat) (l : List Nat) (k : Nat) (w : World) (hn : l.length = n) (hr : Rd w A (l.map iv)) (hm : n ≤ 140737488355328) (hi : k / 3 < 4611686018427387904) :
    Calls Try.prog 61 #[.slice A n cap, .int .i64 ((k : Int) / 3)] w fun e w' => e = .returned (iv (dg l (k / 3))) ∧ w' = w := digit_any A n cap l (k / 3) w hn hr hm hi

set_option maxHeartbeats 800000 in
theorem p_any (w : World) :
    Calls Try.prog 56 #[] w fun e w' => ∃ A c, e = .returned (.slice A 11 c) ∧ Rd w' A (pdig.map iv) ∧ Ext w w' := by
  go_enter Try.func56, Try.ntmps56
  go_wp2
  go_ret
  refine ⟨_, _, rfl, ?_, ext_alloc _ _⟩
  refine Rd.of_cells fun j u hu => ?_
  have hj : j < 11 := by have := (List.getElem?_eq_some_iff.1 hu).1; simpa [pdig] using this
  rw [show (Addr.add ⟨w.heap.size, 0, none⟩ j) = ⟨w.heap.size, j, none⟩ from by unfold Addr.add; split <;> simp_all]
  rw [World.cell?_alloc_at _ _ _ _ rfl, ← hu]
  rcases (by omega : j = 0 ∨ j = 1 ∨ j = 2 ∨ j = 3 ∨ j = 4 ∨ j = 5 ∨ j = 6 ∨ j = 7 ∨ j = 8 ∨ j = 9 ∨ j = 10) with rfl | rfl | rfl | rfl | rfl | rfl | rfl | rfl | rfl | rfl | rfl <;> rfl

set_option maxHeartbeats 800000 in
theorem small_any (a : UInt8) (w : World) :
    Calls Try.prog 16 #[.int .u8 (n8 a)] w fun e w' => e = .returned (.agg (bcells (updb (fun _ => 0) 0 a))) ∧ Ext w w' := by
  go_enter Try.func16, Try.ntmps16
  go_wp2_with (simp only [bcells_set])
  refine bodyPost_ret_by (by simp [results, Try.results16, go_sem]; rfl) rfl ?_
  exact ⟨rfl, (ext_alloc _ _).trans (ext_alloc _ _)⟩

set_option maxHeartbeats 2000000 in
theorem bytes_any (A : Option Addr) (n cap : Nat) (l : List Nat) (w : World) (hn : l.length = n) (hs : Small l) (hr : Rd w A (l.map iv)) (hm : n ≤ 140737488355328) :
    Calls Try.prog 17 #[.slice A n cap] w fun e w' => e = .returned (.agg (bcells (nb (dval l)))) ∧ Ext w w' := by
  have hD : Hid (∀ q, dg l q < 16777216) := Lib.hid hs.dg
  have hB : Hid (∀ j, nb (dval l) j = UInt8.ofNat (dg l (j / 3) / 256 ^ (j % 3))) := Lib.hid (digit_byte hs)
  clear hs
  go_enter Try.func17, Try.ntmps17
  go_wp2
  go_loopw [4] (fun i wr => ∃ (k : Nat) (g : Nat → UInt8), k ≤ 32 ∧ i = .int .i64 k ∧ wr = (w.alloc (.cells (bcells fun _ => 0) 22)).alloc (.cells (bcells g) 22) ∧ ∀ j, j < k → g j = nb (dval l) j) (fun i _ => 32 - (intOf i).toNat)
  case atStart => exact ⟨0, _, by omega, rfl, rfl, fun _ h => absurd h (by omega)⟩
  case round =>
    obtain ⟨k, g, hk, rfl, rfl, hg⟩ := hrel
    replace hg := Lib.hid hg
    by_cases hlt : k < 32
    · have hdl := hD.out (k / 3)
      have h3 : k % 3 < 3 := Nat.mod_lt _ (by decide)
      go_wp2_with (go_at_call 61; with_reducible refine (digit_third _ _ _ l k _ hn ((hr.alloc _).alloc _) hm (by omega)).mono ?_; rintro e w' ⟨rfl, rfl⟩)
      go_loop [5, 6] (fun t5 t6 => ∃ m : Nat, m ≤ k % 3 ∧ t6 = .int .i64 m ∧ t5 = iv (dg l (k / 3) / 256 ^ m)) (fun _ t6 => 3 - (intOf t6).toNat)
      case atStart => exact ⟨0, by omega, rfl, by rw [Nat.pow_zero, Nat.div_one]⟩
      case round =>
        obtain ⟨m, hm3, rfl, rfl⟩ := hrel
        have hX : dg l (k / 3) / 256 ^ m < 16777216 := Nat.lt_of_le_of_lt (Nat.div_le_self _ _) hdl
        have hX2 : Hid (((dg l (k / 3) / 256 ^ m : Nat) : Int) / 256 = ((dg l (k / 3) / 256 ^ (m + 1) : Nat) : Int)) := Lib.hid (by
          rw [Nat.pow_succ, ← Nat.div_div_eq_div_mul]; rfl)
        have hX3 : Hid (m = k % 3 → Cv.u8 (((dg l (k / 3) / 256 ^ m : Nat) : Int) % 256) = nb (dval l) k) := Lib.hid (by
          intro h
          subst h
          rw [hB.out k]
          generalize dg l (k / 3) / 256 ^ (k % 3) = X
          rw [show ((X : Int) % 256) = ((X % 256 : Nat) : Int) from rfl, u8_nat]
          apply UInt8.toNat_inj.1
          rw [UInt8.toNat_ofNat', UInt8.toNat_ofNat']
          exact Nat.mod_mod _ _)
        generalize dg l (k / 3) / 256 ^ m = X at *
        by_cases hlt3 : m < k % 3
        · go_wp2
          go_round
          case rel => exact ⟨m + 1, by omega, by go_num, by rw [hX2.out]⟩
          case measure => simp [intOf]; omega
        · have hmk : m = k % 3 := by omega
          go_wp2
          rw [bcells_set, hX3.out hmk]
          refine ⟨⟨k + 1, updb g k (nb (dval l) k), by omega, by go_num, rfl, fun j hj => ?_⟩, by simp [intOf]; omega⟩
          by_cases hjk : j = k
          · subst hjk; exact if_pos rfl
          · rw [show updb g k (nb (dval l) k) j = g j from if_neg hjk]; exact hg.out j (by omega)
    · have hk32 : k = 32 := by omega
      subst hk32
      rw [bcells_congr hg.out]
      go_wp2
      refine bodyPost_ret_by (by simp [results, Try.results17, go_sem]; rfl) rfl ?_
      exact ⟨rfl, (ext_alloc _ _).trans (ext_alloc _ _)⟩
end Go.Proofs.Ytndohjgfjbopnaa
