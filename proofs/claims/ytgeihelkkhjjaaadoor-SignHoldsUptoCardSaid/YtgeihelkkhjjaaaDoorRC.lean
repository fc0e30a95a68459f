/-
  Texts of the lemmas below the claim, put together: RC RD RO.
-/
import Derived.Test.YtgeihelkkhjjaaaDoorRA
import Derived.BigRegion
import Derived.Test.YtgeihelkkhjjaaaDoorSC
section
section
/-
  Plain laws of 23 sums that are settled into a number below 2^255.
-/
set_option linter.unusedSimpArgs false
set_option linter.unusedVariables false
namespace Go.Cv.Dig
open Go.RowKit
theorem dg_set' {l : List Nat} {i : Nat} (h : i < l.length) (x j : Nat) : dg (l.set i x) j = if j = i then x else dg l j := by
  unfold dg
  rw [List.getD_eq_getElem?_getD, List.getD_eq_getElem?_getD, List.getElem?_set]
  by_cases hj : j = i
  · subst hj; simp [h]
  · rw [if_neg (fun e => hj e.symm), if_neg hj]
theorem dg_le_dval {l : List Nat} {i : Nat} (h : i < l.length) : 16777216 ^ i * dg l i ≤ dval l := by
  rw [lo_hi l (Nat.le_of_lt h), hi_cons h, Nat.mul_add]
  omega
theorem small_of {l : List Nat} (h : ∀ j, dg l j < 16777216) : Small l := fun d hd => by
  obtain ⟨i, hi, rfl⟩ := List.mem_iff_getElem.1 hd
  rw [← dg_lt hi]; exact h i
/-- Behind i digits of the carrying. -/
structure CarryInv (X : Nat) (os : List Nat) (i : Nat) : Prop where
  len : os.length = 23
  low : ∀ j, j < i → dg os j < 16777216
  at_ : dg os i < 2 ^ 61
  far : ∀ j, i < j → dg os j < 2 ^ 60
  val : dval os = X
theorem CarryInv.start {os : List Nat} (hl : os.length = 23) (h : ∀ j, dg os j < 2 ^ 60) : CarryInv (dval os) os 0 :=
  ⟨hl, fun j hj => absurd hj (by omega), by have := h 0; omega, fun j _ => h j, rfl⟩
theorem CarryInv.step {X : Nat} {os : List Nat} {i : Nat} (h : CarryInv X os i) (hi : i < 22) :
    CarryInv X ((os.set (i + 1) (dg os (i + 1) + dg os i / 16777216)).set i (dg os i % 16777216)) (i + 1) := by
  obtain ⟨hl, h1, h2, h3, h4⟩ := h
  have h5 := h3 (i + 1) (by omega)
  have e1 := dval_set (l := os) (i := i + 1) (by omega) (dg os (i + 1) + dg os i / 16777216)
  have e2 := dval_set (l := os.set (i + 1) (dg os (i + 1) + dg os i / 16777216)) (i := i) (by rw [List.length_set]; omega) (dg os i % 16777216)
  rw [dg_set' (by omega), if_neg (by omega)] at e2
  have e3 := Nat.mod_add_div (dg os i) 16777216
  refine ⟨by simp [hl], fun j hj => ?_, ?_, fun j hj => ?_, ?_⟩
  · rw [dg_set' (by rw [List.length_set]; omega), dg_set' (by omega)]
    split
    · omega
    · rw [if_neg (by omega)]; exact h1 j (by omega)
  · rw [dg_set' (by rw [List.length_set]; omega), dg_set' (by omega), if_neg (by omega), if_pos rfl]
    omega
  · rw [dg_set' (by rw [List.length_set]; omega), dg_set' (by omega), if_neg (by omega), if_neg (by omega)]
    exact h3 j (by omega)
  · rw [← h4]
    rw [Nat.mul_add, Nat.pow_succ, Nat.mul_assoc] at e1
    have e4 : 16777216 ^ i * (dg os i % 16777216 + 16777216 * (dg os i / 16777216)) = 16777216 ^ i * dg os i := by rw [e3]
    rw [Nat.mul_add] at e4
    rw [Nat.mul_assoc (16777216 ^ i) 16777216 (dg os i / 16777216)] at e1
    omega
theorem CarryInv.done {X : Nat} {os : List Nat} (h : CarryInv X os 22) (hX : X < 16777216 ^ 23) : os.length = 23 ∧ Small os ∧ dval os = X := by
  refine ⟨h.len, small_of fun j => ?_, h.val⟩
  rcases Nat.lt_trichotomy j 22 with hj | rfl | hj
  · exact h.low j hj
  · have h1 := dg_le_dval (l := os) (i := 22) (by rw [h.len]; decide)
    rw [h.val] at h1
    rcases Nat.lt_or_ge (dg os 22) 16777216 with h2 | h2
    · exact h2
    · exfalso
      have h3 : 16777216 ^ 22 * 16777216 ≤ 16777216 ^ 22 * dg os 22 := Nat.mul_le_mul_left _ h2
      rw [← Nat.pow_succ] at h3
      omega
  · rw [dg_ge (by rw [h.len]; omega)]; decide
/-- Behind the digits 11 to k + 10 of the folding. -/
structure FoldInv (X : Nat) (os : List Nat) (k : Nat) (b : Bool) : Prop where
  len : os.length = 23
  far : ∀ j, k ≤ j → dg os j < 16777216
  all : ∀ j, dg os j < 2 ^ 39
  no : b = false → dval os = X ∧ Small os ∧ ∀ j, 11 ≤ j → j < k + 11 → dg os j = 0
  yes : b = true → dval os < X ∧ dval os % (2 ^ 255 - 19) = X % (2 ^ 255 - 19)
theorem FoldInv.start {X : Nat} {os : List Nat} (hl : os.length = 23) (hs : Small os) (hv : dval os = X) : FoldInv X os 0 false :=
  ⟨hl, fun j _ => hs.dg j, fun j => by have := hs.dg j; omega, fun _ => ⟨hv, hs, fun j h1 h2 => absurd h2 (by omega)⟩, fun h => by cases h⟩
theorem FoldInv.zero {X : Nat} {os : List Nat} {k : Nat} {b : Bool} (h : FoldInv X os k b) (h0 : dg os (k + 11) = 0) : FoldInv X os (k + 1) b := by
  obtain ⟨hl, h1, h2, h3, h4⟩ := h
  refine ⟨hl, fun j hj => h1 j (by omega), h2, fun hb => ?_, h4⟩
  obtain ⟨h5, h6, h7⟩ := h3 hb
  refine ⟨h5, h6, fun j hj1 hj2 => ?_⟩
  by_cases e : j = k + 11
  · rw [e]; exact h0
  · exact h7 j hj1 (by omega)
theorem fold_val {P a d X Y Z : Nat} (hd : 0 < d) (hP : 0 < P) (e1 : Y + P * a = X + P * (a + d * 19 * 512)) (e2 : Z + P * 16777216 ^ 11 * d = Y + P * 16777216 ^ 11 * 0) :
    Z < X ∧ Z % (2 ^ 255 - 19) = X % (2 ^ 255 - 19) := by
  have e3 : X = Z + (2 ^ 255 - 19) * (512 * (P * d)) := by
    have e4 : P * (d * 19 * 512) = P * d * 9728 := by rw [Nat.mul_assoc d, ← Nat.mul_assoc P]
    rw [Nat.mul_add, e4] at e1
    rw [Nat.mul_right_comm P] at e2
    generalize P * d = Q at *
    omega
  have h1 : 0 < P * d := Nat.mul_pos hP hd
  refine ⟨by omega, ?_⟩
  rw [e3, Nat.add_mul_mod_self_left]
theorem FoldInv.step {X : Nat} {os : List Nat} {k : Nat} {b : Bool} (h : FoldInv X os k b) (hk : k < 12) (h0 : 0 < dg os (k + 11)) :
    FoldInv X ((os.set k (dg os k + dg os (k + 11) * 19 * 512)).set (k + 11) 0) (k + 1) true := by
  obtain ⟨hl, h1, h2, h3, h4⟩ := h
  have e1 := dval_set (l := os) (i := k) (by omega) (dg os k + dg os (k + 11) * 19 * 512)
  have e2 := dval_set (l := os.set k (dg os k + dg os (k + 11) * 19 * 512)) (i := k + 11) (by rw [List.length_set]; omega) 0
  rw [dg_set' (by omega), if_neg (by omega), Nat.pow_add] at e2
  have hf := fold_val h0 (Nat.pow_pos (by decide)) e1 e2
  have hk1 := h1 k (Nat.le_refl _)
  have hk2 := h1 (k + 11) (by omega)
  refine ⟨by simp [hl], fun j hj => ?_, fun j => ?_, fun hb => (by cases hb), fun _ => ?_⟩
  · rw [dg_set' (by rw [List.length_set]; omega), dg_set' (by omega)]
    split
    · decide
    · rw [if_neg (by omega)]; exact h1 j (by omega)
  · rw [dg_set' (by rw [List.length_set]; omega), dg_set' (by omega)]
    split
    · decide
    · split
      · omega
      · exact h2 j
  · cases b with
    | false =>
      have := (h3 rfl).1
      rw [← this]
      exact hf
    | true =>
      have := h4 rfl
      exact ⟨Nat.lt_trans hf.1 this.1, hf.2.trans this.2⟩
theorem top_val {P a d X Y Z q r : Nat} (hq : 0 < q) (e : r + 32768 * q = d) (e1 : Y + 16777216 ^ 0 * a = X + 16777216 ^ 0 * (a + 19 * q)) (e2 : Z + 16777216 ^ 10 * d = Y + 16777216 ^ 10 * r) :
    Z < X ∧ Z % (2 ^ 255 - 19) = X % (2 ^ 255 - 19) := by
  subst e
  have e3 : X = Z + (2 ^ 255 - 19) * q := by omega
  refine ⟨by omega, ?_⟩
  rw [e3, Nat.add_mul_mod_self_left]
theorem top_step {os : List Nat} (hl : os.length = 23) (hs : Small os) (h : 32768 ≤ dg os 10) :
    dval ((os.set 0 (dg os 0 + 19 * (dg os 10 / 32768))).set 10 (dg os 10 % 32768)) < dval os ∧
    dval ((os.set 0 (dg os 0 + 19 * (dg os 10 / 32768))).set 10 (dg os 10 % 32768)) % (2 ^ 255 - 19) = dval os % (2 ^ 255 - 19) := by
  have e1 := dval_set (l := os) (i := 0) (by omega) (dg os 0 + 19 * (dg os 10 / 32768))
  have e2 := dval_set (l := os.set 0 (dg os 0 + 19 * (dg os 10 / 32768))) (i := 10) (by rw [List.length_set]; omega) (dg os 10 % 32768)
  rw [dg_set' (by omega), if_neg (by omega)] at e2
  exact top_val (P := 0) (by omega) (Nat.mod_add_div _ _) e1 e2
/-- Ahead of a round of settling. -/
structure SetInv (N : Nat) (os : List Nat) (b : Bool) : Prop where
  len : os.length = 23
  all : ∀ j, dg os j < 2 ^ 60
  val : dval os < 16777216 ^ 23
  mod : dval os % (2 ^ 255 - 19) = N
  no : b = false → Small os ∧ (∀ j, 11 ≤ j → dg os j = 0) ∧ dg os 10 < 32768
theorem SetInv.last {N : Nat} {os : List Nat} (h : SetInv N os false) : Small (os.take 11) ∧ dval (os.take 11) < 2 ^ 255 ∧ dval (os.take 11) % (2 ^ 255 - 19) = N := by
  obtain ⟨h1, h2, h3⟩ := h.no rfl
  have e : dval (os.take 11) = dval os := take_val h2
  refine ⟨h1.take _, ?_, by rw [e]; exact h.mod⟩
  have h4 : lo os 11 = lo os 10 + 16777216 ^ 10 * dg os 10 := lo_succ os 10
  have h5 := lo_lt h1 10
  have h6 : dval (os.take 11) = lo os 11 := rfl
  rw [h6, h4]
  omega
theorem SetInv.top {X N : Nat} {os : List Nat} (h : FoldInv X os 12 false) (hX : X < 16777216 ^ 23) (hN : X % (2 ^ 255 - 19) = N) (h10 : 32768 ≤ dg os 10) :
    SetInv N ((os.set 0 (dg os 0 + 19 * (dg os 10 / 32768))).set 10 (dg os 10 % 32768)) true ∧
    (2 * dval ((os.set 0 (dg os 0 + 19 * (dg os 10 / 32768))).set 10 (dg os 10 % 32768)) + if true then 1 else 0) < 2 * X + 1 := by
  obtain ⟨hl, h1, h2, h3, h4⟩ := h
  obtain ⟨h5, h6, h7⟩ := h3 rfl
  have hd0 := h6.dg 0
  have hd1 := h6.dg 10
  obtain ⟨h8, h9⟩ := top_step hl h6 h10
  rw [h5] at h8 h9
  refine ⟨⟨by simp [hl], fun j => ?_, Nat.lt_trans h8 hX, h9.trans hN, fun h => by cases h⟩, ?_⟩
  · rw [dg_set' (by rw [List.length_set]; omega), dg_set' (by omega)]
    split
    · omega
    · split
      · omega
      · have := h2 j; omega
  · simp only [if_true]
    omega
end Go.Cv.Dig
end
section
/-
  Walks of the document's answer: 23 sums settled.
-/
set_option linter.unusedSimpArgs false
set_option linter.unusedVariables false
namespace Go.Cv
end Go.Cv
namespace Go.Proofs.YtgeihelkkhjjaaaDoor
open Go.RowKit Go.Cv Go.Cv.Dig

end Go.Proofs.YtgeihelkkhjjaaaDoor
end
section
/-
  Plain laws of sums, differences and products in 23 digits.
-/
set_option linter.unusedSimpArgs false
set_option linter.unusedVariables false
namespace Go.Cv.Dig
open Go.RowKit
theorem dg_rep (n j : Nat) : dg (List.replicate n 0) j = 0 := by
  unfold dg
  rw [List.getD_eq_getElem?_getD, List.getElem?_replicate]
  split <;> rfl
theorem dval_rep (n : Nat) : dval (List.replicate n 0) = 0 := dval_zeros fun d hd => List.eq_of_mem_replicate hd
/-- Behind i digits of a sum. -/
structure AddInv (a b os : List Nat) (i : Nat) : Prop where
  len : os.length = 23
  all : ∀ j, dg os j < 2 ^ 26
  far : ∀ j, i ≤ j → dg os j = 0
  val : dval os = lo a i + lo b i
theorem AddInv.start (a b : List Nat) : AddInv a b (List.replicate 23 0) 0 :=
  ⟨by simp, fun j => by rw [dg_rep]; decide, fun j _ => dg_rep _ _, by rw [dval_rep, lo_zero, lo_zero]⟩
theorem AddInv.step {a b os : List Nat} {i : Nat} (ha : Small a) (hb : Small b) (h : AddInv a b os i) (hi : i < 11) :
    AddInv a b (os.set i (dg a i + dg b i)) (i + 1) := by
  obtain ⟨hl, h1, h2, h3⟩ := h
  have ha := ha.dg i
  have hb := hb.dg i
  have e1 := dval_set (l := os) (i := i) (by omega) (dg a i + dg b i)
  rw [h2 i (Nat.le_refl _), Nat.mul_zero, Nat.add_zero, Nat.mul_add] at e1
  refine ⟨by simp [hl], fun j => ?_, fun j hj => ?_, ?_⟩
  · rw [dg_set' (by omega)]
    split
    · omega
    · exact h1 j
  · rw [dg_set' (by omega), if_neg (by omega)]; exact h2 j (by omega)
  · rw [e1, lo_succ, lo_succ]; omega
theorem dval_bound {os : List Nat} (h0 : ∀ j, 12 ≤ j → dg os j = 0) (h : ∀ j, dg os j < 2 ^ 60) : dval os < 16777216 ^ 23 := by
  have key : ∀ n, lo os n ≤ 2 ^ 60 * 16777216 ^ n := by
    intro n
    induction n with
    | zero => rw [lo_zero]; omega
    | succ n ih =>
      rw [lo_succ, show (16777216 : Nat) ^ (n + 1) = 16777216 ^ n * 16777216 from Nat.pow_succ ..]
      have h1 := h n
      have h2 : 16777216 ^ n * dg os n ≤ 16777216 ^ n * 2 ^ 60 := Nat.mul_le_mul_left _ (Nat.le_of_lt h1)
      generalize 16777216 ^ n = P at *
      generalize P * dg os n = Q at *
      omega
  have e : dval os = lo os 12 := (take_val h0).symm
  have := key 12
  rw [e]
  omega
theorem AddInv.done {a b os : List Nat} (h : AddInv a b os 11) (ha : a.length ≤ 11) (hb : b.length ≤ 11) : SetInv ((dval a + dval b) % (2 ^ 255 - 19)) os true := by
  obtain ⟨hl, h1, h2, h3⟩ := h
  rw [lo_all ha, lo_all hb] at h3
  have h4 : ∀ j, dg os j < 2 ^ 60 := fun j => by have := h1 j; omega
  exact ⟨hl, h4, dval_bound (fun j hj => h2 j (by omega)) h4, by rw [h3], fun h => by cases h⟩
/-- Behind i digits of a difference. -/
structure SubInv (a b os : List Nat) (i : Nat) : Prop where
  len : os.length = 23
  all : ∀ j, dg os j < 2 ^ 26
  far : ∀ j, i ≤ j → dg os j = 0
  val : dval os + lo b i = lo a i + 2 * lo pdig i
theorem SubInv.start (a b : List Nat) : SubInv a b (List.replicate 23 0) 0 :=
  ⟨by simp, fun j => by rw [dg_rep]; decide, fun j _ => dg_rep _ _, by rw [dval_rep, lo_zero, lo_zero, lo_zero]⟩
theorem SubInv.step {a b os : List Nat} {i : Nat} (ha : Small a) (h : SubInv a b os i) (hi : i < 11) (hb : dg b i ≤ dg a i + 2 * dg pdig i) :
    SubInv a b (os.set i (dg a i + 2 * dg pdig i - dg b i)) (i + 1) := by
  obtain ⟨hl, h1, h2, h3⟩ := h
  have ha := ha.dg i
  have hp := pdig_canon.1.dg i
  have e1 := dval_set (l := os) (i := i) (by omega) (dg a i + 2 * dg pdig i - dg b i)
  rw [h2 i (Nat.le_refl _), Nat.mul_zero, Nat.add_zero] at e1
  have e2 : 16777216 ^ i * (dg a i + 2 * dg pdig i - dg b i) + 16777216 ^ i * dg b i = 16777216 ^ i * dg a i + 2 * (16777216 ^ i * dg pdig i) := by
    rw [← Nat.mul_add, Nat.sub_add_cancel hb, Nat.mul_add, Nat.mul_left_comm]
  refine ⟨by simp [hl], fun j => ?_, fun j hj => ?_, ?_⟩
  · rw [dg_set' (by omega)]
    split
    · omega
    · exact h1 j
  · rw [dg_set' (by omega), if_neg (by omega)]; exact h2 j (by omega)
  · rw [e1, lo_succ, lo_succ, lo_succ]; omega
theorem SubInv.done {a b os : List Nat} (h : SubInv a b os 11) (ha : a.length ≤ 11) (hb : b.length ≤ 11) : SetInv ((dval a + 2 * (2 ^ 255 - 19) - dval b) % (2 ^ 255 - 19)) os true := by
  obtain ⟨hl, h1, h2, h3⟩ := h
  have hp : lo pdig 11 = 2 ^ 255 - 19 := by rw [lo_all (by decide), pdig_val]
  rw [lo_all ha, lo_all hb, hp] at h3
  have h4 : ∀ j, dg os j < 2 ^ 60 := fun j => by have := h1 j; omega
  refine ⟨hl, h4, dval_bound (fun j hj => h2 j (by omega)) h4, ?_, fun h => by cases h⟩
  congr 1
  omega
/-- Behind the rows 0 to i - 1 and k digits of row i of a product. -/
structure MulInv (D : Nat) (a b os : List Nat) (i k : Nat) : Prop where
  len : os.length = 23
  near : ∀ j, j < i + k → dg os j ≤ (i + 1) * D
  far : ∀ j, i + k ≤ j → dg os j ≤ i * D
  val : dval os = lo a i * dval b + 16777216 ^ i * (dg a i * lo b k)
theorem MulInv.start (D : Nat) (a b : List Nat) : MulInv D a b (List.replicate 23 0) 0 0 :=
  ⟨by simp, fun j hj => absurd hj (by omega), fun j _ => by rw [dg_rep]; exact Nat.zero_le _, by rw [dval_rep, lo_zero, lo_zero]; simp⟩
theorem MulInv.step {D : Nat} (hD : D = 281474976710656) {a b os : List Nat} {i k : Nat} (ha : Small a) (hb : Small b) (h : MulInv D a b os i k) (hi : i + k < 23) :
    MulInv D a b (os.set (i + k) (dg os (i + k) + dg a i * dg b k)) i (k + 1) ∧ dg os (i + k) ≤ i * D ∧ dg a i * dg b k < D := by
  obtain ⟨hl, h1, h2, h3⟩ := h
  have ha := ha.dg i
  have hb := hb.dg k
  have hm : dg a i * dg b k ≤ 16777215 * 16777215 := Nat.mul_le_mul (by omega) (by omega)
  have hf := h2 (i + k) (Nat.le_refl _)
  have e1 := dval_set (l := os) (i := i + k) (by omega) (dg os (i + k) + dg a i * dg b k)
  refine ⟨⟨by simp [hl], fun j hj => ?_, fun j hj => ?_, ?_⟩, hf, by omega⟩
  · rw [dg_set' (by omega)]
    split
    · rw [Nat.add_mul]; omega
    · exact h1 j (by omega)
  · rw [dg_set' (by omega), if_neg (by omega)]; exact h2 j (by omega)
  · rw [Nat.mul_add] at e1
    have e2 : 16777216 ^ (i + k) * (dg a i * dg b k) = 16777216 ^ i * (dg a i * (16777216 ^ k * dg b k)) := by
      rw [Nat.pow_add, Nat.mul_assoc, Nat.mul_left_comm (16777216 ^ k)]
    rw [lo_succ, Nat.mul_add (dg a i), Nat.mul_add (16777216 ^ i), ← e2]
    omega
theorem MulInv.row {D : Nat} {a b os : List Nat} {i : Nat} (h : MulInv D a b os i b.length) : MulInv D a b os (i + 1) 0 := by
  obtain ⟨hl, h1, h2, h3⟩ := h
  refine ⟨hl, fun j hj => ?_, fun j hj => ?_, ?_⟩
  · rcases Nat.lt_or_ge j (i + b.length) with h | h
    · have := h1 j h; rw [Nat.add_mul]; omega
    · have := h2 j h; rw [Nat.add_mul, Nat.add_mul]; omega
  · rcases Nat.lt_or_ge j (i + b.length) with h | h
    · have := h1 j h; omega
    · have := h2 j h; rw [Nat.add_mul]; omega
  · rw [h3, lo_all (Nat.le_refl _), lo_zero, lo_succ, Nat.add_mul, ← Nat.mul_assoc, Nat.mul_zero, Nat.mul_zero, Nat.add_zero]
theorem prod_lt {x y : Nat} (hx : x < 16777216 ^ 11) (hy : y < 16777216 ^ 11) : x * y < 16777216 ^ 23 := by
  refine Nat.lt_of_le_of_lt (Nat.mul_le_mul (Nat.le_of_lt hx) (Nat.le_of_lt hy)) ?_
  rw [← Nat.pow_add]
  exact Nat.pow_lt_pow_right (by decide) (by decide)
theorem MulInv.done {D : Nat} (hD : D = 281474976710656) {a b os : List Nat} (h : MulInv D a b os a.length 0) (hla : a.length ≤ 11) (hlb : b.length ≤ 11) (ha : Small a) (hb : Small b) : SetInv ((dval a * dval b) % (2 ^ 255 - 19)) os true := by
  obtain ⟨hl, h1, h2, h3⟩ := h
  rw [lo_all (Nat.le_refl _), lo_zero, Nat.mul_zero, Nat.mul_zero, Nat.add_zero] at h3
  refine ⟨hl, fun j => ?_, ?_, by rw [h3], fun h => by cases h⟩
  · have : (a.length + 1) * D ≤ 12 * D := Nat.mul_le_mul_right _ (by omega)
    have h9 : a.length * D ≤ 12 * D := Nat.mul_le_mul_right _ (by omega)
    rcases Nat.lt_or_ge j (a.length + 0) with h | h
    · have := h1 j h; omega
    · have := h2 j h; omega
  · have h4 := ha.lt
    have h5 := hb.lt
    have h6 : 16777216 ^ a.length ≤ 16777216 ^ 11 := Nat.pow_le_pow_right (by decide) hla
    have h7 : 16777216 ^ b.length ≤ 16777216 ^ 11 := Nat.pow_le_pow_right (by decide) hlb
    rw [h3]
    exact prod_lt (by omega) (by omega)
end Go.Cv.Dig
end
end
section
section
/-
  Walks of the document's answer: sums, differences, products, and what 32 bytes stand for.
-/
set_option linter.unusedSimpArgs false
set_option linter.unusedVariables false
namespace Go.Proofs.YtgeihelkkhjjaaaDoor
open Go.RowKit Go.Cv Go.Cv.Dig
@[go_sem] theorem make_int23 (w : World) : (Instr.makeSlice 30 (.int .i64 23) (.int .i64 23)).run Tryd.prog w =
    .ok (.slice (some ⟨w.heap.size, 0, none⟩) 23 23) (w.alloc (.cells (icells (List.replicate 23 0)) 3)) := make_int 23 w (by decide)

theorem V_lt (f : Nat → UInt8) : V f < 16777216 ^ 11 := Nat.lt_of_lt_of_le (bsum_lt f 32) (by decide)
end Go.Proofs.YtgeihelkkhjjaaaDoor
end
section
/-
  Walks of the document's answer: powers and the inverse.
-/
set_option linter.unusedSimpArgs false
set_option linter.unusedVariables false
namespace Go.Cv.Dig
end Go.Cv.Dig
namespace Go.Proofs.YtgeihelkkhjjaaaDoor
open Go.RowKit Go.Cv Go.Cv.Dig
theorem Num.mono {w : World} {v : Value} {x N M : Nat} (h : Num w v x N) (hM : N ≤ M) : Num w v x M := by
  obtain ⟨A, n, c, l, rfl, hn, hc, hr, hl, hx, hN⟩ := h
  exact Num.mk hn hc hr hl hx (Nat.le_trans hN hM)
theorem num_lit (d : Nat) (h0 : d ≠ 0) (hd : d < 16777216) (w : World) (t : TypeId) : Num (w.alloc (.cells #[.int .i64 (d : Int)] t)) (.slice (some ⟨w.heap.size, 0, none⟩) 1 1) d 11 :=
  Num.mk (l := [d]) rfl (Nat.le_refl _) (rd_new_one w (iv d) t) ⟨Canon.of_snoc hd, by simpa using h0⟩ (dval_one d) (by decide)
theorem num_1 (w : World) (t : TypeId) : Num (w.alloc (.cells #[.int .i64 1] t)) (.slice (some ⟨w.heap.size, 0, none⟩) 1 1) 1 11 := num_lit 1 (by decide) (by decide) w t
end Go.Proofs.YtgeihelkkhjjaaaDoor
end
section
/-
  Walks of the document's answer: the inverse and the root.
-/
set_option linter.unusedSimpArgs false
set_option linter.unusedVariables false
namespace Go.Cv.Dig
end Go.Cv.Dig
namespace Go.Proofs.YtgeihelkkhjjaaaDoor
open Go.RowKit Go.Cv Go.Cv.Dig
theorem plus_num (w : World) (v1 v2 : Value) (x y : Nat) (h1 : Num w v1 x 11) (h2 : Num w v2 y 11) (hlt : x + y < 16777216 ^ 11) :
    Calls Tryd.prog 9 #[v1, v2] w fun e w' => ∃ v, e = .returned v ∧ Num w' v (x + y) 11 ∧ Ext w w' := by
  obtain ⟨A, n, c, l, rfl, hn, hc, hr, hcan, rfl, hl⟩ := h1
  obtain ⟨B, n2, c2, l2, rfl, hn2, hc2, hr2, hcan2, rfl, hl2⟩ := h2
  refine (plus_any A B n n2 c c2 l l2 w hn hn2 hcan hcan2 hr hr2 (by omega) (by omega)).mono ?_
  rintro e w' ⟨v, rfl, hv, hx⟩
  exact ⟨v, rfl, hv.short hlt, hx⟩
theorem num_nil (w : World) : Num w (.slice none 0 0) 0 11 := Num.mk (l := []) rfl (Nat.le_refl _) (fun k v h => by simp at h) Canon.nil_ rfl (by decide)

end Go.Proofs.YtgeihelkkhjjaaaDoor
end
section
/-
  Walks of the document's answer: the root.
-/
set_option linter.unusedSimpArgs false
set_option linter.unusedVariables false
namespace Go.Proofs.YtgeihelkkhjjaaaDoor
open Go.RowKit Go.Cv Go.Cv.Dig
theorem bytes_num (w : World) (v : Value) (x : Nat) (h : Num w v x 11) :
    Calls Tryd.prog 8 #[v] w fun e w' => e = .returned (.agg (bcells (nb x))) ∧ Ext w w' := by
  obtain ⟨A, n, c, l, rfl, hn, hc, hr, hcan, rfl, hl⟩ := h
  exact bytes_any A n c l w hn hcan.1 hr (by omega)

end Go.Proofs.YtgeihelkkhjjaaaDoor
end
end
section
section
/-
  The document's answer of layer 7: the order.
-/
set_option linter.unusedSimpArgs false
set_option linter.unusedVariables false
namespace Go.Cv
open Go.RowKit Go.Cv.Dig
def lowL : List UInt8 := [237, 211, 245, 92, 26, 99, 18, 88, 214, 156, 247, 162, 222, 249, 222, 20]
def lowF (i : Nat) : Nat → UInt8 := fun k => if k < i then lowL.getD k 0 else 0
theorem lowF_val : V (updb (lowF 16) 31 16) = ordN := by decide
theorem lowF_zero : lowF 0 = fun _ => 0 := by funext k; simp [lowF]
theorem lowF_succ (i : Nat) : updb (lowF i) i (lowL.getD i 0) = lowF (i + 1) := by
  funext k
  unfold updb lowF
  by_cases h : k = i
  · subst h; simp
  · rw [if_neg h]
    by_cases h2 : k < i
    · rw [if_pos h2, if_pos (by omega)]
    · rw [if_neg h2, if_neg (by omega)]
end Go.Cv
namespace Go.Proofs.YtgeihelkkhjjaaaDoor
open Go.RowKit Go.Cv Go.Cv.Dig
theorem of_num (b : Nat) (f : Nat → UInt8) (w : World) (hR : RV w b 22 (fun u => u = .agg (bcells f))) :
    Calls Tryd.prog 10 #[.slice (some ⟨b, 0, none⟩) 32 32] w fun e w' => ∃ v, e = .returned v ∧ Num w' v (V f) 11 ∧ Ext w w' := by
  refine (of_any _ 32 32 (blist f) w (blist_len f) (rd_bcells hR) (by decide)).mono ?_
  rintro e w' ⟨v, rfl, hv, hx⟩
  rw [show bsum (lb (blist f)) 32 = V f from bsum_blist f] at hv
  exact ⟨v, rfl, hv.short (Nat.lt_of_lt_of_le (bsum_lt f 32) (by decide)), hx⟩
set_option maxRecDepth 20000 in
set_option maxHeartbeats 4000000 in
theorem rorder_any (w : World) :
    Calls Tryd.prog 11 #[] w fun e w' => ∃ v, e = .returned v ∧ Num w' v ordN 11 ∧ Ext w w' := by
  go_enter Tryd.func11, Tryd.ntmps11
  go_upto_region 4 with fail
  obtain ⟨W0, hW0⟩ : ∃ W0, W0 = w.alloc (.cells (bcells fun _ => 0) 22) := ⟨_, rfl⟩
  obtain ⟨b, hb⟩ : ∃ b, b = w.heap.size := ⟨_, rfl⟩
  rw [← hW0, ← hb]
  have s0 : W0.heap.size = b + 1 := by rw [hW0, hb]; exact Array.size_push _
  have hx0 : Ext w W0 := by rw [hW0]; exact ext_alloc _ _
  have hR0 : RV W0 b 22 (fun u => u = .agg (bcells (lowF 0))) := by rw [hW0, hb, lowF_zero]; exact RV.newB _ _ _
  have hbw : w.heap.size ≤ b := by omega
  clear hW0 hb
  obtain ⟨W, hW⟩ : ∃ W, W = W0.alloc (.cells #[.int .u8 237, .int .u8 211, .int .u8 245, .int .u8 92, .int .u8 26, .int .u8 99, .int .u8 18, .int .u8 88, .int .u8 214, .int .u8 156, .int .u8 247, .int .u8 162, .int .u8 222, .int .u8 249, .int .u8 222, .int .u8 20] 5) := ⟨_, rfl⟩
  obtain ⟨bl, hbl⟩ : ∃ bl, bl = b + 1 := ⟨_, rfl⟩
  rw [← hW, ← hbl]
  have hRl : Row W bl 5 (lowL.map bv) := by rw [hW, hbl, ← s0]; exact Row.alloc W0 (lowL.map bv) _
  have hx1 : Ext W0 W := by rw [hW]; exact ext_alloc _ _
  have hne : bl ≠ b := by omega
  have hR1 := hR0.ext hx1
  have hx := hx0.trans hx1
  clear hW hbl s0 hx0 hx1 hR0
  go_loopw [3] (fun v3 wr => ∃ i : Nat, i ≤ 16 ∧ v3 = .int .i64 i ∧ RV wr b 22 (fun u => u = .agg (bcells (lowF i))) ∧ Keep [b] W wr) (fun v3 _ => 16 - (intOf v3).toNat)
  case atStart => exact ⟨0, by decide, rfl, hR1, Keep.refl _ _⟩
  case round =>
    clear hR1
    obtain ⟨i, hi, rfl, hR, hK⟩ := hrel
    have hRl2 := hRl.keep hK (by simpa using hne)
    by_cases hi2 : i < 16
    · have hiI : (i : Int) < 16 := by omega
      have hi0 : 0 ≤ (i : Int) := by omega
      have hi32 : (i : Int) < 32 := by omega
      have c1 : wr.cell? ⟨bl, i, none⟩ = some (.int .u8 (n8 (lowL.getD i 0))) := by
        rw [hRl2.cell (i := i) (by rw [List.length_map]; exact hi2), List.getElem_map]
        have : lowL.getD i 0 = lowL[i]'(show i < lowL.length from hi2) := by simp [List.getD, List.getElem?_eq_getElem (show i < lowL.length from hi2)]
        rw [this]
      have hfr := hR.fro i
      have c2 := hR.byte (i := i) (by omega)
      have hR2 := hR.set i (lowL.getD i 0)
      rw [lowF_succ] at hR2
      have hK2 := hK.same (Keep.setCell wr ⟨b, i, none⟩ (.int .u8 (n8 (lowL.getD i 0))))
      have hms : 16 - (i + 1) < 16 - i := by omega
      clear hR hK hRl2 hRl hne
      generalize lowL.getD i 0 = y at *
      go_wp2
      all_goals
        exact ⟨⟨i + 1, hi2, by go_num, hR2, ⟨hK2.os, hK2.tape, hK2.output, hK2.size, hK2.keep⟩⟩, by simpa [intOf] using hms⟩
    · obtain rfl : i = 16 := by omega
      have hK2 := hK.same (Keep.setCell wr ⟨b, 31, none⟩ (.int .u8 16))
      have hR2 : RV (wr.setCell ⟨b, 31, none⟩ (.int .u8 16)) b 22 (fun u => u = .agg (bcells (updb (lowF 16) 31 16))) := hR.set 31 16
      have hxw := Ext.keep_ hx hK2 (by simpa using hbw)
      have hfr := hR.fro 31
      have c2 := hR.byte (i := 31) (by omega)
      clear hR hK hRl2 hRl hne hK2
      go_wp2_with (first
        | (go_at_call 10; ((with_reducible refine (of_num b _ _ hR2).mono ?_); rintro e w' ⟨v, rfl, hv, hx2⟩)))
      rw [lowF_val] at hv
      refine bodyPost_ret_by (by simp [results, Tryd.results11, go_sem]; rfl) rfl ?_
      exact ⟨v, rfl, hv, hxw.trans hx2⟩
end Go.Proofs.YtgeihelkkhjjaaaDoor
end
section
/-
  The document's answer of layer 7: numbers modulo the order.
-/
set_option linter.unusedSimpArgs false
set_option linter.unusedVariables false
namespace Go.Cv.Dig
end Go.Cv.Dig
namespace Go.Proofs.YtgeihelkkhjjaaaDoor
open Go.RowKit Go.Cv Go.Cv.Dig
end Go.Proofs.YtgeihelkkhjjaaaDoor
end
section
/-
  The document's answer: the product of two numbers.
-/
set_option linter.unusedSimpArgs false
set_option linter.unusedVariables false
namespace Go.Cv.Dig
open Go.RowKit
/-- What stands behind i digits of a product. -/
structure ProdInv (l m os : List Nat) (i : Nat) : Prop where
  len : os.length = l.length + m.length
  small : Small os
  val : dval os = lo l i * dval m
  zero : ∀ j, i + m.length ≤ j → dg os j = 0
structure ProdIn (l m os : List Nat) (i k c : Nat) : Prop where
  len : os.length = l.length + m.length
  small : Small os
  car : c < 16777216
  val : dval os + 16777216 ^ (i + k) * c = lo l i * dval m + 16777216 ^ i * (dg l i * lo m k)
  zero : ∀ j, i + m.length ≤ j → dg os j = 0
theorem ProdInv.start (l m : List Nat) : ProdInv l m (List.replicate (l.length + m.length) 0) 0 := by
  refine ⟨by simp, fun d hd => by rw [List.eq_of_mem_replicate hd]; decide, by rw [dval_replicate, lo_zero, Nat.zero_mul], fun j _ => ?_⟩
  unfold dg
  rw [List.getD_eq_getElem?_getD, List.getElem?_replicate]
  split <;> rfl
theorem ProdInv.enter {l m os : List Nat} {i : Nat} (h : ProdInv l m os i) : ProdIn l m os i 0 0 :=
  ⟨h.len, h.small, by decide, by rw [h.val, lo_zero]; simp, h.zero⟩
theorem prod_le {a b c d : Nat} (ha : a < 16777216) (hb : b < 16777216) (hc : c < 16777216) (hd : d < 16777216) : a + b * c + d < 16777216 * 16777216 := by
  have h := Nat.mul_le_mul (show b ≤ 16777215 by omega) (show c ≤ 16777215 by omega)
  omega
theorem ProdIn.step {l m os : List Nat} {i k c : Nat} (hl : Small l) (hm : Small m) (hi : i < l.length) (hk : k < m.length) (h : ProdIn l m os i k c) :
    ProdIn l m (os.set (i + k) ((dg os (i + k) + dg l i * dg m k + c) % 16777216)) i (k + 1) ((dg os (i + k) + dg l i * dg m k + c) / 16777216) := by
  have h1 := hl.dg i
  have h2 := hm.dg k
  have h3 := h.small.dg (i + k)
  have hlen := h.len
  have ht := prod_le h3 h1 h2 h.car
  have ha := dval_set (l := os) (i := i + k) (by omega) ((dg os (i + k) + dg l i * dg m k + c) % 16777216)
  have hv := h.val
  obtain ⟨t, ht0⟩ : ∃ t, t = dg os (i + k) + dg l i * dg m k + c := ⟨_, rfl⟩
  rw [← ht0] at ha ht ⊢
  refine ⟨by rw [List.length_set, hlen], h.small.set _ (Nat.mod_lt _ (by decide)), Nat.div_lt_of_lt_mul ht, ?_, fun j hj => ?_⟩
  · have e2 : 16777216 ^ (i + k) * (t % 16777216 + 16777216 * (t / 16777216)) = 16777216 ^ (i + k) * t := by rw [Nat.mod_add_div]
    rw [Nat.mul_add, ← Nat.mul_assoc] at e2
    have e3 : 16777216 ^ (i + k) * t = 16777216 ^ (i + k) * dg os (i + k) + 16777216 ^ (i + k) * (dg l i * dg m k) + 16777216 ^ (i + k) * c := by rw [ht0, Nat.mul_add, Nat.mul_add]
    have e4 : 16777216 ^ i * (dg l i * lo m (k + 1)) = 16777216 ^ i * (dg l i * lo m k) + 16777216 ^ (i + k) * (dg l i * dg m k) := by
      rw [lo_succ, Nat.mul_add, Nat.mul_add, Nat.pow_add]
      congr 1
      rw [Nat.mul_left_comm (dg l i), Nat.mul_assoc]
    rw [e4, ← Nat.add_assoc i k 1, Nat.pow_succ]
    omega
  · rw [dg_set (by omega), if_neg (by omega)]
    exact h.zero _ hj
end Go.Cv.Dig
namespace Go.Proofs.YtgeihelkkhjjaaaDoor
open Go.RowKit Go.Cv Go.Cv.Dig
@[go_sem] theorem make_int2 (n m : Nat) (w : World) (hn : n + m ≤ 100000) : (Instr.makeSlice 30 (.int .i64 ((n : Int) + (m : Int))) (.int .i64 ((n : Int) + (m : Int)))).run Tryd.prog w =
    .ok (.slice (some ⟨w.heap.size, 0, none⟩) (n + m) (n + m)) (w.alloc (.cells (icells (List.replicate (n + m) 0)) 3)) := make_int (n + m) w (by omega)
end Go.Proofs.YtgeihelkkhjjaaaDoor
end
end
