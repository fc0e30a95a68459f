/-
  Plain laws of sums, differences and products in 23 digits.
-/
import Derived.Test.YtndohjgfjbopnaaSetl
set_option linter.unusedSimpArgs false
set_option linter.unusedVariables false
namespace Go.Cv.Dig
open Go.RowKit
theorem dg_rep (n j : Nat) : dg (List.replicate n 0) j = 0 := by
  unfold dg
  rw [List.getD_eq_getElem?_getD, List.getElem?_replicate]
  split <;> rfl
theorem dval_rep (n : Nat) : dval (List.replicate n 0) = 0 := dval_zeros fun d hd => List.eq_of_mem_replicate hd
/-- Behind i digits of a sum. -/
structure AddInv (a b os : List Nat) (i : Nat) : Prop where
  len : os.length = 23
  all : ∀ j, dg os j < 2 ^ 26
  far : ∀ j, i ≤ j → dg os j = 0
  val : dval os = lo a i + lo b i
theorem AddInv.start (a b : List Nat) : AddInv a b (List.replicate 23 0) 0 :=
  ⟨by simp, fun j => by rw [dg_rep]; decide, fun j _ => dg_rep _ _, by rw [dval_rep, lo_zero, lo_zero]⟩
theorem AddInv.step {a b os : List Nat} {i : Nat} (ha : Small a) (hb : Small b) (h : AddInv a b os i) (hi : i < 11) :
    AddInv a b (os.set i (dg a i + dg b i)) (i + 1) := by
  obtain ⟨hl, h1, h2, h3⟩ := h
  have ha := ha.dg i
  have hb := hb.dg i
  have e1 := dval_set (l := os) (i := i) (by omega) (dg a i + dg b i)
  rw [h2 i (Nat.le_refl _), Nat.mul_zero, Nat.add_zero, Nat.mul_add] at e1
  refine ⟨by simp [hl], fun j => ?_, fun j hj => ?_, ?_⟩
  · rw [dg_set' (by omega)]
    split
    · omega
    · exact h1 j
  · rw [dg_set' (by omega), if_neg (by omega)]; exact h2 j (by omega)
  · rw [e1, lo_succ, lo_succ]; omega
theorem dval_bound {os : List Nat} (h0 : ∀ j, 12 ≤ j → dg os j = 0) (h : ∀ j, dg os j < 2 ^ 60) : dval os < 16777216 ^ 23 := by
  have key : ∀ n, lo os n ≤ 2 ^ 60 * 16777216 ^ n := by
    intro n
    induction n with
    | zero => rw [lo_zero]; omega
    | succ n ih =>
      rw [lo_succ, show (16777216 : Nat) ^ (n + 1) = 16777216 ^ n * 16777216 from Nat.pow_succ ..]
      have h1 := h n
      have h2 : 16777216 ^ n * dg os n ≤ 16777216 ^ n * 2 ^ 60 := Nat.mul_le_mul_left _ (Nat.le_of_lt h1)
      generalize 16777216 ^ n = P at *
      generalize P * dg os n = Q at *
      omega
  have e : dval os = lo os 12 := (take_val h0).symm
  have := key 12
  rw [e]
  omega
theorem AddInv.done {a b os : List Nat} (h : AddInv a b os 11) (ha : a.length ≤ 11) (hb : b.length ≤ 11) : SetInv ((dval a + dval b) % (2 ^ 255 - 19)) os true := by
  obtain ⟨hl, h1, h2, h3⟩ := h
  rw [lo_all ha, lo_all hb] at h3
  have h4 : ∀ j, dg os j < 2 ^ 60 := fun j => by have := h1 j; omega
  exact ⟨hl, h4, dval_bound (fun j hj => h2 j (by omega)) h4, by rw [h3], fun h => by cases h⟩
/-- Behind i digits of a difference. -/
structure SubInv (a b os : List Nat) (i : Nat) : Prop where
  len : os.length = 23
  all : ∀ j, dg os j < 2 ^ 26
  far : ∀ j, i ≤ j → dg os j = 0
  val : dval os + lo b i = lo a i + 2 * lo pdig i
theorem SubInv.start (a b : List Nat) : SubInv a b (List.replicate 23 0) 0 :=
  ⟨by simp, fun j => by rw [dg_rep]; decide, fun j _ => dg_rep _ _, by rw [dval_rep, lo_zero, lo_zero, lo_zero]⟩
theorem SubInv.step {a b os : List Nat} {i : Nat} (ha : Small a) (h : SubInv a b os i) (hi : i < 11) (hb : dg b i ≤ dg a i + 2 * dg pdig i) :
    SubInv a b (os.set i (dg a i + 2 * dg pdig i - dg b i)) (i + 1) := by
  obtain ⟨hl, h1, h2, h3⟩ := h
  have ha := ha.dg i
  have hp := pdig_canon.1.dg i
  have e1 := dval_set (l := os) (i := i) (by omega) (dg a i + 2 * dg pdig i - dg b i)
  rw [h2 i (Nat.le_refl _), Nat.mul_zero, Nat.add_zero] at e1
  have e2 : 16777216 ^ i * (dg a i + 2 * dg pdig i - dg b i) + 16777216 ^ i * dg b i = 16777216 ^ i * dg a i + 2 * (16777216 ^ i * dg pdig i) := by
    rw [← Nat.mul_add, Nat.sub_add_cancel hb, Nat.mul_add, Nat.mul_left_comm]
  refine ⟨by simp [hl], fun j => ?_, fun j hj => ?_, ?_⟩
  · rw [dg_set' (by omega)]
    split
    · omega
    · exact h1 j
  · rw [dg_set' (by omega), if_neg (by omega)]; exact h2 j (by omega)
  · rw [e1, lo_succ, lo_succ, lo_succ]; omega
theorem pdig_dg : ∀ i, i < 10 → 8388608 ≤ dg pdig i := by decide
theorem sub_ok {b : List Nat} (hb : Small b) (h10 : dg b 10 < 32768) (i : Nat) (hi : i < 11) : dg b i ≤ 2 * dg pdig i := by
  have h1 := hb.dg i
  by_cases h : i = 10
  · subst h
    have : dg pdig 10 = 32767 := by decide
    omega
  · have := pdig_dg i (by omega); omega
theorem top_dg {b : List Nat} (hv : dval b < 2 ^ 255) : dg b 10 < 32768 := by
  rcases Nat.lt_or_ge 10 b.length with h | h
  · have := dg_le_dval h; omega
  · rw [dg_ge h]; decide
theorem SubInv.done {a b os : List Nat} (h : SubInv a b os 11) (ha : a.length ≤ 11) (hb : b.length ≤ 11) : SetInv ((dval a + 2 * (2 ^ 255 - 19) - dval b) % (2 ^ 255 - 19)) os true := by
  obtain ⟨hl, h1, h2, h3⟩ := h
  have hp : lo pdig 11 = 2 ^ 255 - 19 := by rw [lo_all (by decide), pdig_val]
  rw [lo_all ha, lo_all hb, hp] at h3
  have h4 : ∀ j, dg os j < 2 ^ 60 := fun j => by have := h1 j; omega
  refine ⟨hl, h4, dval_bound (fun j hj => h2 j (by omega)) h4, ?_, fun h => by cases h⟩
  congr 1
  omega
/-- Behind the rows 0 to i - 1 and k digits of row i of a product. -/
structure MulInv (D : Nat) (a b os : List Nat) (i k : Nat) : Prop where
  len : os.length = 23
  near : ∀ j, j < i + k → dg os j ≤ (i + 1) * D
  far : ∀ j, i + k ≤ j → dg os j ≤ i * D
  val : dval os = lo a i * dval b + 16777216 ^ i * (dg a i * lo b k)
theorem MulInv.start (D : Nat) (a b : List Nat) : MulInv D a b (List.replicate 23 0) 0 0 :=
  ⟨by simp, fun j hj => absurd hj (by omega), fun j _ => by rw [dg_rep]; exact Nat.zero_le _, by rw [dval_rep, lo_zero, lo_zero]; simp⟩
theorem MulInv.step {D : Nat} (hD : D = 281474976710656) {a b os : List Nat} {i k : Nat} (ha : Small a) (hb : Small b) (h : MulInv D a b os i k) (hi : i + k < 23) :
    MulInv D a b (os.set (i + k) (dg os (i + k) + dg a i * dg b k)) i (k + 1) ∧ dg os (i + k) ≤ i * D ∧ dg a i * dg b k < D := by
  obtain ⟨hl, h1, h2, h3⟩ := h
  have ha := ha.dg i
  have hb := hb.dg k
  have hm : dg a i * dg b k ≤ 16777215 * 16777215 := Nat.mul_le_mul (by omega) (by omega)
  have hf := h2 (i + k) (Nat.le_refl _)
  have e1 := dval_set (l := os) (i := i + k) (by omega) (dg os (i + k) + dg a i * dg b k)
  refine ⟨⟨by simp [hl], fun j hj => ?_, fun j hj => ?_, ?_⟩, hf, by omega⟩
  · rw [dg_set' (by omega)]
    split
    · rw [Nat.add_mul]; omega
    · exact h1 j (by omega)
  · rw [dg_set' (by omega), if_neg (by omega)]; exact h2 j (by omega)
  · rw [Nat.mul_add] at e1
    have e2 : 16777216 ^ (i + k) * (dg a i * dg b k) = 16777216 ^ i * (dg a i * (16777216 ^ k * dg b k)) := by
      rw [Nat.pow_add, Nat.mul_assoc, Nat.mul_left_comm (16777216 ^ k)]
    rw [lo_succ, Nat.mul_add (dg a i), Nat.mul_add (16777216 ^ i), ← e2]
    omega
theorem MulInv.row {D : Nat} {a b os : List Nat} {i : Nat} (h : MulInv D a b os i b.length) : MulInv D a b os (i + 1) 0 := by
  obtain ⟨hl, h1, h2, h3⟩ := h
  refine ⟨hl, fun j hj => ?_, fun j hj => ?_, ?_⟩
  · rcases Nat.lt_or_ge j (i + b.length) with h | h
    · have := h1 j h; rw [Nat.add_mul]; omega
    · have := h2 j h; rw [Nat.add_mul, Nat.add_mul]; omega
  · rcases Nat.lt_or_ge j (i + b.length) with h | h
    · have := h1 j h; omega
    · have := h2 j h; rw [Nat.add_mul]; omega
  · rw [h3, lo_all (Nat.le_refl _), lo_zero, lo_succ, Nat.add_mul, ← Nat.mul_assoc, Nat.mul_zero, Nat.mul_zero, Nat.add_zero]
theorem prod_lt {x y : Nat} (hx : x < 16777216 ^ 11) (hy : y < 16777216 ^ 11) : x * y < 16777216 ^ 23 := by
  refine Nat.lt_of_le_of_lt (Nat.mul_le_mul (Nat.le_of_lt hx) (Nat.le_of_lt hy)) ?_
  rw [← Nat.pow_add]
  exact Nat.pow_lt_pow_right (by decide) (by decide)
theorem MulInv.done {D : Nat} (hD : D = 281474976710656) {a b os : List Nat} (h : MulInv D a b os a.length 0) (hla : a.length ≤ 11) (hlb : b.length ≤ 11) (ha : Small a) (hb : Small b) : SetInv ((dval a * dval b) % (2 ^ 255 - 19)) os true := by
  obtain ⟨hl, h1, h2, h3⟩ := h
  rw [lo_all (Nat.le_refl _), lo_zero, Nat.mul_zero, Nat.mul_zero, Nat.add_zero] at h3
  refine ⟨hl, fun j => ?_, ?_, by rw [h3], fun h => by cases h⟩
  · have : (a.length + 1) * D ≤ 12 * D := Nat.mul_le_mul_right _ (by omega)
    have h9 : a.length * D ≤ 12 * D := Nat.mul_le_mul_right _ (by omega)
    rcases Nat.lt_or_ge j (a.length + 0) with h | h
    · have := h1 j h; omega
    · have := h2 j h; omega
  · have h4 := ha.lt
    have h5 := hb.lt
    have h6 : 16777216 ^ a.length ≤ 16777216 ^ 11 := Nat.pow_le_pow_right (by decide) hla
    have h7 : 16777216 ^ b.length ≤ 16777216 ^ 11 := Nat.pow_le_pow_right (by decide) hlb
    rw [h3]
    exact prod_lt (by omega) (by omega)
end Go.Cv.Dig
