/-
  Plain laws on numbers as lists of digits of 24 bits, the lowest first.
-/
import Derived.Test.YtnlphndfnnmdaaaDoorLib
set_option linter.unusedSimpArgs false
set_option linter.unusedVariables false
namespace Go.Cv.Dig

/-- A digit in a cell. -/
@[reducible] def iv (d : Nat) : Value := .int .i64 (d : Int)
theorem one_map_iv (l : List Nat) : ∀ u ∈ l.map iv, u.oneCell' = true := by
  intro u hu
  obtain ⟨b, _, rfl⟩ := List.mem_map.1 hu
  rfl

def dval : List Nat → Nat
  | [] => 0
  | d :: l => d + 16777216 * dval l
def Small (l : List Nat) : Prop := ∀ d ∈ l, d < 16777216
/-- Digits, and no nought at the end. -/
def Canon (l : List Nat) : Prop := Small l ∧ l.getLast? ≠ some 0

theorem dval_append (l m : List Nat) : dval (l ++ m) = dval l + 16777216 ^ l.length * dval m := by
  induction l with
  | nil => simp [dval]
  | cons d l ih =>
    simp only [List.cons_append, dval, ih, List.length_cons, Nat.pow_succ]
    rw [Nat.mul_add, ← Nat.add_assoc]
    congr 1
    rw [← Nat.mul_assoc, Nat.mul_comm 16777216 (16777216 ^ l.length)]
theorem dval_snoc (l : List Nat) (d : Nat) : dval (l ++ [d]) = dval l + 16777216 ^ l.length * d := by
  rw [dval_append]; simp [dval]
theorem Small.lt {l : List Nat} (h : Small l) : dval l < 16777216 ^ l.length := by
  induction l with
  | nil => simp [dval]
  | cons d l ih =>
    have h1 := h d (by simp)
    have h2 := ih fun x hx => h x (by simp [hx])
    simp only [dval, List.length_cons, Nat.pow_succ]
    have : 16777216 * (dval l + 1) ≤ 16777216 * 16777216 ^ l.length := Nat.mul_le_mul_left _ h2
    omega
theorem Small.nil_ : Small [] := fun d h => by simp at h
theorem Small.append {l m : List Nat} (h : Small l) (k : Small m) : Small (l ++ m) := fun d hd => by
  rcases List.mem_append.1 hd with h1 | h1
  · exact h d h1
  · exact k d h1
theorem Small.snoc {l : List Nat} {d : Nat} (h : Small l) (hd : d < 16777216) : Small (l ++ [d]) :=
  h.append fun x hx => by rw [List.mem_singleton.1 hx]; exact hd
theorem Small.take {l : List Nat} (h : Small l) (n : Nat) : Small (l.take n) := fun d hd => h d (List.mem_of_mem_take hd)
theorem Canon.nil_ : Canon [] := ⟨Small.nil_, by simp⟩
theorem Canon.snoc {l : List Nat} {d : Nat} (h : Small l) (hd : d < 16777216) (h0 : d ≠ 0) : Canon (l ++ [d]) := ⟨h.snoc hd, by simpa using h0⟩

theorem dval_zeros : ∀ {l : List Nat}, (∀ d ∈ l, d = 0) → dval l = 0
  | [], _ => rfl
  | d :: l, h => by
    have h1 := h d (by simp)
    have h2 := dval_zeros (l := l) fun x hx => h x (by simp [hx])
    simp [dval, h1, h2]
theorem all_zero_of_dval : ∀ {l : List Nat}, dval l = 0 → ∀ d ∈ l, d = 0
  | [], _, d, h => by simp at h
  | x :: l, h, d, hd => by
    simp only [dval] at h
    rcases List.mem_cons.1 hd with rfl | hd
    · omega
    · exact all_zero_of_dval (l := l) (by omega) d hd
theorem Canon.tail {d : Nat} {l : List Nat} (h : Canon (d :: l)) : Canon l := by
  refine ⟨fun x hx => h.1 x (by simp [hx]), fun hl => h.2 ?_⟩
  rcases l with _ | ⟨x, l⟩
  · simp at hl
  · simpa [List.getLast?_cons] using hl
theorem Canon.zero {l : List Nat} (h : Canon l) (h0 : dval l = 0) : l = [] := by
  rcases l with _ | ⟨d, l⟩
  · rfl
  · exfalso
    apply h.2
    have := all_zero_of_dval h0
    have hne : (d :: l) ≠ [] := by simp
    rw [List.getLast?_eq_some_getLast hne]
    rw [this _ (List.getLast_mem hne)]
theorem Canon.unique : ∀ {l m : List Nat}, Canon l → Canon m → dval l = dval m → l = m
  | [], m, _, hm, h => (hm.zero h.symm).symm
  | d :: l, [], hl, _, h => hl.zero h
  | d :: l, e :: m, hl, hm, h => by
    have h1 := hl.1 d (by simp)
    have h2 := hm.1 e (by simp)
    simp only [dval] at h
    have h3 : d = e := by omega
    have h4 : dval l = dval m := by omega
    rw [h3, Canon.unique hl.tail hm.tail h4]

/-- A digit, 0 behind the end. -/
def dg (l : List Nat) (i : Nat) : Nat := l.getD i 0
theorem dg_lt {l : List Nat} {i : Nat} (h : i < l.length) : dg l i = l[i] := by simp [dg, List.getD, List.getElem?_eq_getElem h]
theorem dg_ge {l : List Nat} {i : Nat} (h : l.length ≤ i) : dg l i = 0 := by simp [dg, List.getD, List.getElem?_eq_none h]
theorem Small.dg {l : List Nat} (h : Small l) (i : Nat) : dg l i < 16777216 := by
  rcases Nat.lt_or_ge i l.length with h1 | h1
  · rw [dg_lt h1]; exact h _ (List.getElem_mem h1)
  · rw [dg_ge h1]; decide
/-- The number of the first i digits. -/
def lo (l : List Nat) (i : Nat) : Nat := dval (l.take i)
theorem lo_zero (l : List Nat) : lo l 0 = 0 := by simp [lo, dval]
theorem lo_succ (l : List Nat) (i : Nat) : lo l (i + 1) = lo l i + 16777216 ^ i * dg l i := by
  unfold lo
  rcases Nat.lt_or_ge i l.length with h | h
  · rw [List.take_succ_eq_append_getElem h, dval_snoc, List.length_take, Nat.min_eq_left (by omega), dg_lt h]
  · rw [List.take_of_length_le (by omega), List.take_of_length_le h, dg_ge h]; simp
theorem lo_all {l : List Nat} {i : Nat} (h : l.length ≤ i) : lo l i = dval l := by
  unfold lo; rw [List.take_of_length_le h]
theorem lo_lt {l : List Nat} (h : Small l) (i : Nat) : lo l i < 16777216 ^ i := by
  have h1 := (h.take i).lt
  unfold lo
  refine Nat.lt_of_lt_of_le h1 (Nat.pow_le_pow_right (by decide) ?_)
  rw [List.length_take]; omega
theorem Canon.lb {l : List Nat} (h : Canon l) (hn : l ≠ []) : 16777216 ^ (l.length - 1) ≤ dval l := by
  have e : l = l.dropLast ++ [l.getLast hn] := (List.dropLast_concat_getLast hn).symm
  have h0 : l.getLast hn ≠ 0 := fun h1 => h.2 (by rw [List.getLast?_eq_some_getLast hn, h1])
  rw [e, dval_snoc, List.length_append, List.length_dropLast]
  simp only [List.length_cons, List.length_nil]
  have e2 : l.length - 1 + (0 + 1) - 1 = l.length - 1 := by omega
  rw [e2]
  have : 16777216 ^ (l.length - 1) * 1 ≤ 16777216 ^ (l.length - 1) * l.getLast hn := Nat.mul_le_mul_left _ (by omega)
  omega
/-- A longer list is a greater number. -/
theorem Canon.len_lt {l m : List Nat} (hl : Canon l) (hm : Canon m) (h : l.length < m.length) : dval l < dval m := by
  have h1 := hl.1.lt
  have hn : m ≠ [] := by intro e; rw [e] at h; simp at h
  have h2 := hm.lb hn
  have h3 : 16777216 ^ l.length ≤ 16777216 ^ (m.length - 1) := Nat.pow_le_pow_right (by decide) (by omega)
  omega
theorem Canon.len_le {l : List Nat} (h : Canon l) {n : Nat} (hv : dval l < 16777216 ^ n) : l.length ≤ n := by
  rcases Nat.lt_or_ge n l.length with h1 | h1
  · exfalso
    have hn : l ≠ [] := by intro e; rw [e] at h1; simp at h1
    have h2 := h.lb hn
    have h3 : 16777216 ^ n ≤ 16777216 ^ (l.length - 1) := Nat.pow_le_pow_right (by decide) (by omega)
    omega
  · exact h1
/-- From above: the digits from i on as a number. -/
def hi (l : List Nat) (i : Nat) : Nat := dval (l.drop i)
theorem lo_hi (l : List Nat) {i : Nat} (h : i ≤ l.length) : dval l = lo l i + 16777216 ^ i * hi l i := by
  have e : dval l = dval (l.take i ++ l.drop i) := by rw [List.take_append_drop]
  rw [e, dval_append, List.length_take, Nat.min_eq_left h]; rfl
theorem hi_eq {l m : List Nat} {i : Nat} (h : hi l (i + 1) = hi m (i + 1)) (hl : i < l.length) (hm : i < m.length) (hd : dg l i = dg m i) : hi l i = hi m i := by
  unfold hi at *
  rw [List.drop_eq_getElem_cons hl, List.drop_eq_getElem_cons hm]
  simp only [dval]
  rw [h, ← dg_lt hl, ← dg_lt hm, hd]
theorem hi_cons {l : List Nat} {i : Nat} (hl : i < l.length) : hi l i = dg l i + 16777216 * hi l (i + 1) := by
  unfold hi
  rw [List.drop_eq_getElem_cons hl]
  simp only [dval]
  rw [← dg_lt hl]
theorem lt_of_hi {l m : List Nat} {i : Nat} (hs : Small l) (hl : i < l.length) (hm : i < m.length) (h : hi l (i + 1) = hi m (i + 1)) (hd : dg l i < dg m i) : dval l < dval m := by
  rw [lo_hi l (Nat.le_of_lt hl), lo_hi m (Nat.le_of_lt hm), hi_cons hl, hi_cons hm, h]
  have h1 := lo_lt hs i
  have h2 : 16777216 ^ i * (dg l i + 16777216 * hi m (i + 1) + 1) ≤ 16777216 ^ i * (dg m i + 16777216 * hi m (i + 1)) := Nat.mul_le_mul_left _ (by omega)
  rw [Nat.mul_add] at h2
  omega
theorem dval_set : ∀ {l : List Nat} {i : Nat} (h : i < l.length) (x : Nat), dval (l.set i x) + 16777216 ^ i * dg l i = dval l + 16777216 ^ i * x
  | [], i, h, x => by simp at h
  | d :: l, 0, h, x => by simp [dval, dg]; omega
  | d :: l, i + 1, h, x => by
    have ih := dval_set (l := l) (i := i) (by simpa using h) x
    have e : dg (d :: l) (i + 1) = dg l i := by simp [dg]
    simp only [List.set_cons_succ, dval, e, Nat.pow_succ]
    have e2 : ∀ y, 16777216 ^ i * 16777216 * y = 16777216 * (16777216 ^ i * y) := fun y => by
      rw [Nat.mul_comm (16777216 ^ i) 16777216, Nat.mul_assoc]
    rw [e2, e2]
    omega
end Go.Cv.Dig
