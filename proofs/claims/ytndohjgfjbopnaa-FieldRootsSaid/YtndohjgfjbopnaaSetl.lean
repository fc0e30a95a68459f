/-
  Plain laws of 23 sums that are settled into a number below 2^255.
-/
import Derived.Test.YtndohjgfjbopnaaRefE
set_option linter.unusedSimpArgs false
set_option linter.unusedVariables false
namespace Go.Cv.Dig
open Go.RowKit
theorem dg_set' {l : List Nat} {i : Nat} (h : i < l.length) (x j : Nat) : dg (l.set i x) j = if j = i then x else dg l j := by
  unfold dg
  rw [List.getD_eq_getElem?_getD, List.getD_eq_getElem?_getD, List.getElem?_set]
  by_cases hj : j = i
  · subst hj; simp [h]
  · rw [if_neg (fun e => hj e.symm), if_neg hj]
theorem dg_le_dval {l : List Nat} {i : Nat} (h : i < l.length) : 16777216 ^ i * dg l i ≤ dval l := by
  rw [lo_hi l (Nat.le_of_lt h), hi_cons h, Nat.mul_add]
  omega
theorem small_of {l : List Nat} (h : ∀ j, dg l j < 16777216) : Small l := fun d hd => by
  obtain ⟨i, hi, rfl⟩ := List.mem_iff_getElem.1 hd
  rw [← dg_lt hi]; exact h i
/-- Behind i digits of the carrying. -/
structure CarryInv (X : Nat) (os : List Nat) (i : Nat) : Prop where
  len : os.length = 23
  low : ∀ j, j < i → dg os j < 16777216
  at_ : dg os i < 2 ^ 61
  far : ∀ j, i < j → dg os j < 2 ^ 60
  val : dval os = X
theorem CarryInv.start {os : List Nat} (hl : os.length = 23) (h : ∀ j, dg os j < 2 ^ 60) : CarryInv (dval os) os 0 :=
  ⟨hl, fun j hj => absurd hj (by omega), by have := h 0; omega, fun j _ => h j, rfl⟩
theorem CarryInv.step {X : Nat} {os : List Nat} {i : Nat} (h : CarryInv X os i) (hi : i < 22) :
    CarryInv X ((os.set (i + 1) (dg os (i + 1) + dg os i / 16777216)).set i (dg os i % 16777216)) (i + 1) := by
  obtain ⟨hl, h1, h2, h3, h4⟩ := h
  have h5 := h3 (i + 1) (by omega)
  have e1 := dval_set (l := os) (i := i + 1) (by omega) (dg os (i + 1) + dg os i / 16777216)
  have e2 := dval_set (l := os.set (i + 1) (dg os (i + 1) + dg os i / 16777216)) (i := i) (by rw [List.length_set]; omega) (dg os i % 16777216)
  rw [dg_set' (by omega), if_neg (by omega)] at e2
  have e3 := Nat.mod_add_div (dg os i) 16777216
  refine ⟨by simp [hl], fun j hj => ?_, ?_, fun j hj => ?_, ?_⟩
  · rw [dg_set' (by rw [List.length_set]; omega), dg_set' (by omega)]
    split
    · omega
    · rw [if_neg (by omega)]; exact h1 j (by omega)
  · rw [dg_set' (by rw [List.length_set]; omega), dg_set' (by omega), if_neg (by omega), if_pos rfl]
    omega
  · rw [dg_set' (by rw [List.length_set]; omega), dg_set' (by omega), if_neg (by omega), if_neg (by omega)]
    exact h3 j (by omega)
  · rw [← h4]
    rw [Nat.mul_add, Nat.pow_succ, Nat.mul_assoc] at e1
    have e4 : 16777216 ^ i * (dg os i % 16777216 + 16777216 * (dg os i / 16777216)) = 16777216 ^ i * dg os i := by rw [e3]
    rw [Nat.mul_add] at e4
    rw [Nat.mul_assoc (16777216 ^ i) 16777216 (dg os i / 16777216)] at e1
    omega
theorem CarryInv.done {X : Nat} {os : List Nat} (h : CarryInv X os 22) (hX : X < 16777216 ^ 23) : os.length = 23 ∧ Small os ∧ dval os = X := by
  refine ⟨h.len, small_of fun j => ?_, h.val⟩
  rcases Nat.lt_trichotomy j 22 with hj | rfl | hj
  · exact h.low j hj
  · have h1 := dg_le_dval (l := os) (i := 22) (by rw [h.len]; decide)
    rw [h.val] at h1
    rcases Nat.lt_or_ge (dg os 22) 16777216 with h2 | h2
    · exact h2
    · exfalso
      have h3 : 16777216 ^ 22 * 16777216 ≤ 16777216 ^ 22 * dg os 22 := Nat.mul_le_mul_left _ h2
      rw [← Nat.pow_succ] at h3
      omega
  · rw [dg_ge (by rw [h.len]; omega)]; decide
/-- Behind the digits 11 to k + 10 of the folding. -/
structure FoldInv (X : Nat) (os : List Nat) (k : Nat) (b : Bool) : Prop where
  len : os.length = 23
  far : ∀ j, k ≤ j → dg os j < 16777216
  all : ∀ j, dg os j < 2 ^ 39
  no : b = false → dval os = X ∧ Small os ∧ ∀ j, 11 ≤ j → j < k + 11 → dg os j = 0
  yes : b = true → dval os < X ∧ dval os % (2 ^ 255 - 19) = X % (2 ^ 255 - 19)
theorem FoldInv.start {X : Nat} {os : List Nat} (hl : os.length = 23) (hs : Small os) (hv : dval os = X) : FoldInv X os 0 false :=
  ⟨hl, fun j _ => hs.dg j, fun j => by have := hs.dg j; omega, fun _ => ⟨hv, hs, fun j h1 h2 => absurd h2 (by omega)⟩, fun h => by cases h⟩
theorem FoldInv.zero {X : Nat} {os : List Nat} {k : Nat} {b : Bool} (h : FoldInv X os k b) (h0 : dg os (k + 11) = 0) : FoldInv X os (k + 1) b := by
  obtain ⟨hl, h1, h2, h3, h4⟩ := h
  refine ⟨hl, fun j hj => h1 j (by omega), h2, fun hb => ?_, h4⟩
  obtain ⟨h5, h6, h7⟩ := h3 hb
  refine ⟨h5, h6, fun j hj1 hj2 => ?_⟩
  by_cases e : j = k + 11
  · rw [e]; exact h0
  · exact h7 j hj1 (by omega)
theorem fold_val {P a d X Y Z : Nat} (hd : 0 < d) (hP : 0 < P) (e1 : Y + P * a = X + P * (a + d * 19 * 512)) (e2 : Z + P * 16777216 ^ 11 * d = Y + P * 16777216 ^ 11 * 0) :
    Z < X ∧ Z % (2 ^ 255 - 19) = X % (2 ^ 255 - 19) := by
  have e3 : X = Z + (2 ^ 255 - 19) * (512 * (P * d)) := by
    have e4 : P * (d * 19 * 512) = P * d * 9728 := by rw [Nat.mul_assoc d, ← Nat.mul_assoc P]
    rw [Nat.mul_add, e4] at e1
    rw [Nat.mul_right_comm P] at e2
    generalize P * d = Q at *
    omega
  have h1 : 0 < P * d := Nat.mul_pos hP hd
  refine ⟨by omega, ?_⟩
  rw [e3, Nat.add_mul_mod_self_left]
theorem FoldInv.step {X : Nat} {os : List Nat} {k : Nat} {b : Bool} (h : FoldInv X os k b) (hk : k < 12) (h0 : 0 < dg os (k + 11)) :
    FoldInv X ((os.set k (dg os k + dg os (k + 11) * 19 * 512)).set (k + 11) 0) (k + 1) true := by
  obtain ⟨hl, h1, h2, h3, h4⟩ := h
  have e1 := dval_set (l := os) (i := k) (by omega) (dg os k + dg os (k + 11) * 19 * 512)
  have e2 := dval_set (l := os.set k (dg os k + dg os (k + 11) * 19 * 512)) (i := k + 11) (by rw [List.length_set]; omega) 0
  rw [dg_set' (by omega), if_neg (by omega), Nat.pow_add] at e2
  have hf := fold_val h0 (Nat.pow_pos (by decide)) e1 e2
  have hk1 := h1 k (Nat.le_refl _)
  have hk2 := h1 (k + 11) (by omega)
  refine ⟨by simp [hl], fun j hj => ?_, fun j => ?_, fun hb => (by cases hb), fun _ => ?_⟩
  · rw [dg_set' (by rw [List.length_set]; omega), dg_set' (by omega)]
    split
    · decide
    · rw [if_neg (by omega)]; exact h1 j (by omega)
  · rw [dg_set' (by rw [List.length_set]; omega), dg_set' (by omega)]
    split
    · decide
    · split
      · omega
      · exact h2 j
  · cases b with
    | false =>
      have := (h3 rfl).1
      rw [← this]
      exact hf
    | true =>
      have := h4 rfl
      exact ⟨Nat.lt_trans hf.1 this.1, hf.2.trans this.2⟩
theorem top_val {P a d X Y Z q r : Nat} (hq : 0 < q) (e : r + 32768 * q = d) (e1 : Y + 16777216 ^ 0 * a = X + 16777216 ^ 0 * (a + 19 * q)) (e2 : Z + 16777216 ^ 10 * d = Y + 16777216 ^ 10 * r) :
    Z < X ∧ Z % (2 ^ 255 - 19) = X % (2 ^ 255 - 19) := by
  subst e
  have e3 : X = Z + (2 ^ 255 - 19) * q := by omega
  refine ⟨by omega, ?_⟩
  rw [e3, Nat.add_mul_mod_self_left]
theorem top_step {os : List Nat} (hl : os.length = 23) (hs : Small os) (h : 32768 ≤ dg os 10) :
    dval ((os.set 0 (dg os 0 + 19 * (dg os 10 / 32768))).set 10 (dg os 10 % 32768)) < dval os ∧
    dval ((os.set 0 (dg os 0 + 19 * (dg os 10 / 32768))).set 10 (dg os 10 % 32768)) % (2 ^ 255 - 19) = dval os % (2 ^ 255 - 19) := by
  have e1 := dval_set (l := os) (i := 0) (by omega) (dg os 0 + 19 * (dg os 10 / 32768))
  have e2 := dval_set (l := os.set 0 (dg os 0 + 19 * (dg os 10 / 32768))) (i := 10) (by rw [List.length_set]; omega) (dg os 10 % 32768)
  rw [dg_set' (by omega), if_neg (by omega)] at e2
  exact top_val (P := 0) (by omega) (Nat.mod_add_div _ _) e1 e2
/-- Ahead of a round of settling. -/
structure SetInv (N : Nat) (os : List Nat) (b : Bool) : Prop where
  len : os.length = 23
  all : ∀ j, dg os j < 2 ^ 60
  val : dval os < 16777216 ^ 23
  mod : dval os % (2 ^ 255 - 19) = N
  no : b = false → Small os ∧ (∀ j, 11 ≤ j → dg os j = 0) ∧ dg os 10 < 32768
theorem SetInv.last {N : Nat} {os : List Nat} (h : SetInv N os false) : Small (os.take 11) ∧ dval (os.take 11) < 2 ^ 255 ∧ dval (os.take 11) % (2 ^ 255 - 19) = N := by
  obtain ⟨h1, h2, h3⟩ := h.no rfl
  have e : dval (os.take 11) = dval os := take_val h2
  refine ⟨h1.take _, ?_, by rw [e]; exact h.mod⟩
  have h4 : lo os 11 = lo os 10 + 16777216 ^ 10 * dg os 10 := lo_succ os 10
  have h5 := lo_lt h1 10
  have h6 : dval (os.take 11) = lo os 11 := rfl
  rw [h6, h4]
  omega
theorem SetInv.fold {X N : Nat} {os : List Nat} {b : Bool} (h : FoldInv X os 12 b) (hX : X < 16777216 ^ 23) (hN : X % (2 ^ 255 - 19) = N) (hb : b = true ∨ dg os 10 < 32768) :
    SetInv N os b ∧ (2 * dval os + if b then 1 else 0) < 2 * X + 1 := by
  obtain ⟨hl, h1, h2, h3, h4⟩ := h
  cases b with
  | false =>
    obtain ⟨h5, h6, h7⟩ := h3 rfl
    refine ⟨⟨hl, fun j => by have := h2 j; omega, by rw [h5]; exact hX, by rw [h5]; exact hN, fun _ => ⟨h6, fun j hj => ?_, ?_⟩⟩, ?_⟩
    · by_cases e : j < 23
      · exact h7 j hj e
      · exact dg_ge (by omega)
    · simpa using hb
    · rw [h5]; simp
  | true =>
    obtain ⟨h5, h6⟩ := h4 rfl
    refine ⟨⟨hl, fun j => by have := h2 j; omega, Nat.lt_trans h5 hX, by rw [h6]; exact hN, fun h => by cases h⟩, ?_⟩
    simp only [if_true]
    omega
theorem SetInv.top {X N : Nat} {os : List Nat} (h : FoldInv X os 12 false) (hX : X < 16777216 ^ 23) (hN : X % (2 ^ 255 - 19) = N) (h10 : 32768 ≤ dg os 10) :
    SetInv N ((os.set 0 (dg os 0 + 19 * (dg os 10 / 32768))).set 10 (dg os 10 % 32768)) true ∧
    (2 * dval ((os.set 0 (dg os 0 + 19 * (dg os 10 / 32768))).set 10 (dg os 10 % 32768)) + if true then 1 else 0) < 2 * X + 1 := by
  obtain ⟨hl, h1, h2, h3, h4⟩ := h
  obtain ⟨h5, h6, h7⟩ := h3 rfl
  have hd0 := h6.dg 0
  have hd1 := h6.dg 10
  obtain ⟨h8, h9⟩ := top_step hl h6 h10
  rw [h5] at h8 h9
  refine ⟨⟨by simp [hl], fun j => ?_, Nat.lt_trans h8 hX, h9.trans hN, fun h => by cases h⟩, ?_⟩
  · rw [dg_set' (by rw [List.length_set]; omega), dg_set' (by omega)]
    split
    · omega
    · split
      · omega
      · have := h2 j; omega
  · simp only [if_true]
    omega
end Go.Cv.Dig
