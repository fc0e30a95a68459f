import Derived.Test.YtndohjgfjbopnaaKern
section
/-
  Plain laws on numbers as lists of digits of 24 bits, the lowest first.
-/
set_option linter.unusedSimpArgs false
set_option linter.unusedVariables false
namespace Go.Cv.Dig

/-- A digit in a cell. -/
@[reducible] def iv (d : Nat) : Value := .int .i64 (d : Int)
theorem one_map_iv (l : List Nat) : ∀ u ∈ l.map iv, u.oneCell' = true := by
  intro u hu
  obtain ⟨b, _, rfl⟩ := List.mem_map.1 hu
  rfl

def dval : List Nat → Nat
  | [] => 0
  | d :: l => d + 16777216 * dval l
def Small (l : List Nat) : Prop := ∀ d ∈ l, d < 16777216
/-- Digits, and no nought at the end. -/
def Canon (l : List Nat) : Prop := Small l ∧ l.getLast? ≠ some 0

theorem dval_append (l m : List Nat) : dval (l ++ m) = dval l + 16777216 ^ l.length * dval m := by
  induction l with
  | nil => simp [dval]
  | cons d l ih =>
    simp only [List.cons_append, dval, ih, List.length_cons, Nat.pow_succ]
    rw [Nat.mul_add, ← Nat.add_assoc]
    congr 1
    rw [← Nat.mul_assoc, Nat.mul_comm 16777216 (16777216 ^ l.length)]
theorem dval_snoc (l : List Nat) (d : Nat) : dval (l ++ [d]) = dval l + 16777216 ^ l.length * d := by
  rw [dval_append]; simp [dval]
theorem Small.lt {l : List Nat} (h : Small l) : dval l < 16777216 ^ l.length := by
  induction l with
  | nil => simp [dval]
  | cons d l ih =>
    have h1 := h d (by simp)
    have h2 := ih fun x hx => h x (by simp [hx])
    simp only [dval, List.length_cons, Nat.pow_succ]
    have : 16777216 * (dval l + 1) ≤ 16777216 * 16777216 ^ l.length := Nat.mul_le_mul_left _ h2
    omega
theorem Small.nil_ : Small [] := fun d h => by simp at h
theorem Small.append {l m : List Nat} (h : Small l) (k : Small m) : Small (l ++ m) := fun d hd => by
  rcases List.mem_append.1 hd with h1 | h1
  · exact h d h1
  · exact k d h1
theorem Small.snoc {l : List Nat} {d : Nat} (h : Small l) (hd : d < 16777216) : Small (l ++ [d]) :=
  h.append fun x hx => by rw [List.mem_singleton.1 hx]; exact hd
theorem Small.take {l : List Nat} (h : Small l) (n : Nat) : Small (l.take n) := fun d hd => h d (List.mem_of_mem_take hd)
theorem Canon.nil_ : Canon [] := ⟨Small.nil_, by simp⟩
theorem Canon.snoc {l : List Nat} {d : Nat} (h : Small l) (hd : d < 16777216) (h0 : d ≠ 0) : Canon (l ++ [d]) := ⟨h.snoc hd, by simpa using h0⟩

theorem dval_zeros : ∀ {l : List Nat}, (∀ d ∈ l, d = 0) → dval l = 0
  | [], _ => rfl
  | d :: l, h => by
    have h1 := h d (by simp)
    have h2 := dval_zeros (l := l) fun x hx => h x (by simp [hx])
    simp [dval, h1, h2]
theorem all_zero_of_dval : ∀ {l : List Nat}, dval l = 0 → ∀ d ∈ l, d = 0
  | [], _, d, h => by simp at h
  | x :: l, h, d, hd => by
    simp only [dval] at h
    rcases List.mem_cons.1 hd with rfl | hd
    · omega
    · exact all_zero_of_dval (l := l) (by omega) d hd
theorem Canon.tail {d : Nat} {l : List Nat} (h : Canon (d :: l)) : Canon l := by
  refine ⟨fun x hx => h.1 x (by simp [hx]), fun hl => h.2 ?_⟩
  rcases l with _ | ⟨x, l⟩
  · simp at hl
  · simpa [List.getLast?_cons] using hl
theorem Canon.zero {l : List Nat} (h : Canon l) (h0 : dval l = 0) : l = [] := by
  rcases l with _ | ⟨d, l⟩
  · rfl
  · exfalso
    apply h.2
    have := all_zero_of_dval h0
    have hne : (d :: l) ≠ [] := by simp
    rw [List.getLast?_eq_some_getLast hne]
    rw [this _ (List.getLast_mem hne)]
theorem Canon.unique : ∀ {l m : List Nat}, Canon l → Canon m → dval l = dval m → l = m
  | [], m, _, hm, h => (hm.zero h.symm).symm
  | d :: l, [], hl, _, h => hl.zero h
  | d :: l, e :: m, hl, hm, h => by
    have h1 := hl.1 d (by simp)
    have h2 := hm.1 e (by simp)
    simp only [dval] at h
    have h3 : d = e := by omega
    have h4 : dval l = dval m := by omega
    rw [h3, Canon.unique hl.tail hm.tail h4]

/-- A digit, 0 behind the end. -/
def dg (l : List Nat) (i : Nat) : Nat := l.getD i 0
theorem dg_lt {l : List Nat} {i : Nat} (h : i < l.length) : dg l i = l[i] := by simp [dg, List.getD, List.getElem?_eq_getElem h]
theorem dg_ge {l : List Nat} {i : Nat} (h : l.length ≤ i) : dg l i = 0 := by simp [dg, List.getD, List.getElem?_eq_none h]
theorem Small.dg {l : List Nat} (h : Small l) (i : Nat) : dg l i < 16777216 := by
  rcases Nat.lt_or_ge i l.length with h1 | h1
  · rw [dg_lt h1]; exact h _ (List.getElem_mem h1)
  · rw [dg_ge h1]; decide
/-- The number of the first i digits. -/
def lo (l : List Nat) (i : Nat) : Nat := dval (l.take i)
theorem lo_zero (l : List Nat) : lo l 0 = 0 := by simp [lo, dval]
theorem lo_succ (l : List Nat) (i : Nat) : lo l (i + 1) = lo l i + 16777216 ^ i * dg l i := by
  unfold lo
  rcases Nat.lt_or_ge i l.length with h | h
  · rw [List.take_succ_eq_append_getElem h, dval_snoc, List.length_take, Nat.min_eq_left (by omega), dg_lt h]
  · rw [List.take_of_length_le (by omega), List.take_of_length_le h, dg_ge h]; simp
theorem lo_all {l : List Nat} {i : Nat} (h : l.length ≤ i) : lo l i = dval l := by
  unfold lo; rw [List.take_of_length_le h]
theorem lo_lt {l : List Nat} (h : Small l) (i : Nat) : lo l i < 16777216 ^ i := by
  have h1 := (h.take i).lt
  unfold lo
  refine Nat.lt_of_lt_of_le h1 (Nat.pow_le_pow_right (by decide) ?_)
  rw [List.length_take]; omega
theorem Canon.lb {l : List Nat} (h : Canon l) (hn : l ≠ []) : 16777216 ^ (l.length - 1) ≤ dval l := by
  have e : l = l.dropLast ++ [l.getLast hn] := (List.dropLast_concat_getLast hn).symm
  have h0 : l.getLast hn ≠ 0 := fun h1 => h.2 (by rw [List.getLast?_eq_some_getLast hn, h1])
  rw [e, dval_snoc, List.length_append, List.length_dropLast]
  simp only [List.length_cons, List.length_nil]
  have e2 : l.length - 1 + (0 + 1) - 1 = l.length - 1 := by omega
  rw [e2]
  have : 16777216 ^ (l.length - 1) * 1 ≤ 16777216 ^ (l.length - 1) * l.getLast hn := Nat.mul_le_mul_left _ (by omega)
  omega
/-- A longer list is a greater number. -/
theorem Canon.len_lt {l m : List Nat} (hl : Canon l) (hm : Canon m) (h : l.length < m.length) : dval l < dval m := by
  have h1 := hl.1.lt
  have hn : m ≠ [] := by intro e; rw [e] at h; simp at h
  have h2 := hm.lb hn
  have h3 : 16777216 ^ l.length ≤ 16777216 ^ (m.length - 1) := Nat.pow_le_pow_right (by decide) (by omega)
  omega
theorem Canon.len_le {l : List Nat} (h : Canon l) {n : Nat} (hv : dval l < 16777216 ^ n) : l.length ≤ n := by
  rcases Nat.lt_or_ge n l.length with h1 | h1
  · exfalso
    have hn : l ≠ [] := by intro e; rw [e] at h1; simp at h1
    have h2 := h.lb hn
    have h3 : 16777216 ^ n ≤ 16777216 ^ (l.length - 1) := Nat.pow_le_pow_right (by decide) (by omega)
    omega
  · exact h1
/-- From above: the digits from i on as a number. -/
def hi (l : List Nat) (i : Nat) : Nat := dval (l.drop i)
theorem lo_hi (l : List Nat) {i : Nat} (h : i ≤ l.length) : dval l = lo l i + 16777216 ^ i * hi l i := by
  have e : dval l = dval (l.take i ++ l.drop i) := by rw [List.take_append_drop]
  rw [e, dval_append, List.length_take, Nat.min_eq_left h]; rfl
theorem hi_eq {l m : List Nat} {i : Nat} (h : hi l (i + 1) = hi m (i + 1)) (hl : i < l.length) (hm : i < m.length) (hd : dg l i = dg m i) : hi l i = hi m i := by
  unfold hi at *
  rw [List.drop_eq_getElem_cons hl, List.drop_eq_getElem_cons hm]
  simp only [dval]
  rw [h, ← dg_lt hl, ← dg_lt hm, hd]
theorem hi_cons {l : List Nat} {i : Nat} (hl : i < l.length) : hi l i = dg l i + 16777216 * hi l (i + 1) := by
  unfold hi
  rw [List.drop_eq_getElem_cons hl]
  simp only [dval]
  rw [← dg_lt hl]
theorem lt_of_hi {l m : List Nat} {i : Nat} (hs : Small l) (hl : i < l.length) (hm : i < m.length) (h : hi l (i + 1) = hi m (i + 1)) (hd : dg l i < dg m i) : dval l < dval m := by
  rw [lo_hi l (Nat.le_of_lt hl), lo_hi m (Nat.le_of_lt hm), hi_cons hl, hi_cons hm, h]
  have h1 := lo_lt hs i
  have h2 : 16777216 ^ i * (dg l i + 16777216 * hi m (i + 1) + 1) ≤ 16777216 ^ i * (dg m i + 16777216 * hi m (i + 1)) := Nat.mul_le_mul_left _ (by omega)
  rw [Nat.mul_add] at h2
  omega
theorem dval_set : ∀ {l : List Nat} {i : Nat} (h : i < l.length) (x : Nat), dval (l.set i x) + 16777216 ^ i * dg l i = dval l + 16777216 ^ i * x
  | [], i, h, x => by simp at h
  | d :: l, 0, h, x => by simp [dval, dg]; omega
  | d :: l, i + 1, h, x => by
    have ih := dval_set (l := l) (i := i) (by simpa using h) x
    have e : dg (d :: l) (i + 1) = dg l i := by simp [dg]
    simp only [List.set_cons_succ, dval, e, Nat.pow_succ]
    have e2 : ∀ y, 16777216 ^ i * 16777216 * y = 16777216 * (16777216 ^ i * y) := fun y => by
      rw [Nat.mul_comm (16777216 ^ i) 16777216, Nat.mul_assoc]
    rw [e2, e2]
    omega
end Go.Cv.Dig
end
section
/-
  Plain laws: prime numbers, Fermat's little theorem, Pocklington's criterion.
-/
set_option linter.unusedSimpArgs false
set_option linter.unusedVariables false
namespace Go.Cv.Pr

def Prime (n : Nat) : Prop := 2 ≤ n ∧ ∀ d, d ∣ n → d = 1 ∨ d = n

/-- Numbers that are alike modulo n. -/
def Eqm (n a b : Nat) : Prop := a % n = b % n
theorem Eqm.refl (n a : Nat) : Eqm n a a := rfl
theorem Eqm.symm {n a b : Nat} (h : Eqm n a b) : Eqm n b a := Eq.symm h
theorem Eqm.trans {n a b c : Nat} (h : Eqm n a b) (k : Eqm n b c) : Eqm n a c := Eq.trans h k
theorem Eqm.mul {n a b c d : Nat} (h : Eqm n a b) (k : Eqm n c d) : Eqm n (a * c) (b * d) := by
  unfold Eqm at *
  rw [Nat.mul_mod, h, k, ← Nat.mul_mod]
theorem Eqm.add {n a b c d : Nat} (h : Eqm n a b) (k : Eqm n c d) : Eqm n (a + c) (b + d) := by
  unfold Eqm at *
  rw [Nat.add_mod, h, k, ← Nat.add_mod]
theorem Eqm.pow {n a b : Nat} (h : Eqm n a b) : ∀ e, Eqm n (a ^ e) (b ^ e)
  | 0 => rfl
  | e + 1 => by rw [Nat.pow_succ, Nat.pow_succ]; exact (h.pow e).mul h
theorem Eqm.mod (n a : Nat) : Eqm n (a % n) a := Nat.mod_mod _ _
theorem Eqm.of_dvd {n m a b : Nat} (h : Eqm n a b) (hd : m ∣ n) : Eqm m a b := by
  unfold Eqm at *
  rw [← Nat.mod_mod_of_dvd a hd, h, Nat.mod_mod_of_dvd b hd]

theorem eqm_iff_dvd {p a b : Nat} (hle : b ≤ a) : Eqm p a b ↔ p ∣ a - b := by
  unfold Eqm
  constructor
  · intro h
    exact (Nat.dvd_iff_mod_eq_zero ..).2 (Nat.sub_mod_eq_zero_of_mod_eq h)
  · rintro ⟨c, hc⟩
    have : a = b + p * c := by omega
    rw [this, Nat.add_mul_mod_self_left]
theorem Prime.pos {p : Nat} (h : Prime p) : 0 < p := by have := h.1; omega
theorem Prime.coprime {p a : Nat} (h : Prime p) (ha : ¬ p ∣ a) : Nat.Coprime p a := by
  rcases h.2 (Nat.gcd p a) (Nat.gcd_dvd_left p a) with h1 | h1
  · exact h1
  · exfalso; apply ha; rw [← h1]; exact Nat.gcd_dvd_right p a
theorem Prime.dvd_mul {p a b : Nat} (h : Prime p) (hd : p ∣ a * b) : p ∣ a ∨ p ∣ b := by
  by_cases ha : p ∣ a
  · exact .inl ha
  · exact .inr ((h.coprime ha).dvd_of_dvd_mul_left hd)
theorem Prime.dvd_pow {p a : Nat} (h : Prime p) : ∀ {e : Nat}, p ∣ a ^ e → p ∣ a
  | 0, hd => by
    have := Nat.le_of_dvd (by simp) hd
    have := h.1
    simp at *
    omega
  | e + 1, hd => by
    rw [Nat.pow_succ] at hd
    rcases h.dvd_mul hd with h1 | h1
    · exact h.dvd_pow h1
    · exact h1

/-! ### Binomial coefficients -/
def ch : Nat → Nat → Nat
  | _, 0 => 1
  | 0, _ + 1 => 0
  | n + 1, k + 1 => ch n k + ch n (k + 1)
theorem ch_zero (n : Nat) : ch n 0 = 1 := by cases n <;> rfl
theorem ch_gt : ∀ {n k : Nat}, n < k → ch n k = 0
  | 0, k + 1, _ => rfl
  | n + 1, k + 1, h => by simp only [ch]; rw [ch_gt (by omega), ch_gt (by omega)]
  | 0, 0, h => by omega
  | n + 1, 0, h => by omega
theorem ch_self : ∀ n : Nat, ch n n = 1
  | 0 => rfl
  | n + 1 => by simp only [ch]; rw [ch_self n, ch_gt (by omega)]
theorem ch_mul : ∀ n k : Nat, (k + 1) * ch (n + 1) (k + 1) = (n + 1) * ch n k
  | 0, 0 => rfl
  | 0, k + 1 => by
    have h1 : ch 1 (k + 2) = 0 := ch_gt (by omega)
    have h2 : ch 0 (k + 1) = 0 := rfl
    rw [h1, h2]; simp
  | n + 1, 0 => by
    have := ch_mul n 0
    simp only [ch, ch_zero] at *
    omega
  | n + 1, k + 1 => by
    have h1 := ch_mul n k
    have h2 := ch_mul n (k + 1)
    have e1 : ch (n + 2) (k + 2) = ch (n + 1) (k + 1) + ch (n + 1) (k + 2) := rfl
    have e2 : ch (n + 1) (k + 1) = ch n k + ch n (k + 1) := rfl
    rw [e1, Nat.mul_add]
    have e3 : (k + 1 + 1) * ch (n + 1) (k + 1) = (k + 1) * ch (n + 1) (k + 1) + ch (n + 1) (k + 1) := by rw [Nat.add_mul]; simp
    rw [e3, h1, h2]
    have e4 : (n + 1 + 1) * ch (n + 1) (k + 1) = (n + 1) * ch (n + 1) (k + 1) + ch (n + 1) (k + 1) := by rw [Nat.add_mul]; simp
    rw [e4]
    conv => rhs; rw [e2]
    rw [Nat.mul_add]
    rw [e2]
    omega
/-- Sum of f over 0 .. n. -/
def sm (f : Nat → Nat) : Nat → Nat
  | 0 => f 0
  | n + 1 => sm f n + f (n + 1)
theorem sm_add (f g : Nat → Nat) : ∀ n, sm (fun k => f k + g k) n = sm f n + sm g n
  | 0 => rfl
  | n + 1 => by simp only [sm, sm_add f g n]; omega
theorem sm_shift (f : Nat → Nat) : ∀ n, sm f (n + 1) = f 0 + sm (fun k => f (k + 1)) n
  | 0 => rfl
  | n + 1 => by
    have := sm_shift f n
    simp only [sm] at *
    omega
theorem sm_mul (f : Nat → Nat) (c : Nat) : ∀ n, c * sm f n = sm (fun k => c * f k) n
  | 0 => rfl
  | n + 1 => by simp only [sm, Nat.mul_add, sm_mul f c n]
theorem sm_congr {f g : Nat → Nat} : ∀ {n}, (∀ k, k ≤ n → f k = g k) → sm f n = sm g n
  | 0, h => h 0 (Nat.le_refl _)
  | n + 1, h => by simp only [sm]; rw [sm_congr fun k hk => h k (by omega), h (n + 1) (Nat.le_refl _)]
theorem binom (x : Nat) : ∀ n, (x + 1) ^ n = sm (fun k => ch n k * x ^ k) n
  | 0 => by simp [sm, ch]
  | n + 1 => by
    have ih := binom x n
    rw [Nat.pow_succ, Nat.mul_add, Nat.mul_one, ih]
    rw [sm_shift (fun k => ch (n + 1) k * x ^ k) n]
    have e : sm (fun k => ch (n + 1) (k + 1) * x ^ (k + 1)) n = sm (fun k => ch n k * x ^ (k + 1) + ch n (k + 1) * x ^ (k + 1)) n :=
      sm_congr fun k _ => by simp only [ch]; rw [Nat.add_mul]
    rw [e, sm_add]
    have e2 : sm (fun k => ch n k * x ^ (k + 1)) n = sm (fun k => ch n k * x ^ k) n * x := by
      rw [Nat.mul_comm, sm_mul]
      exact sm_congr fun k _ => by rw [Nat.pow_succ, ← Nat.mul_assoc, Nat.mul_comm]
    rw [e2]
    have e3 : sm (fun k => ch n k * x ^ k) (n + 1) = sm (fun k => ch n k * x ^ k) n := by
      simp only [sm]; rw [ch_gt (Nat.lt_succ_self n)]; simp
    rw [sm_shift] at e3
    simp only [ch_zero, Nat.pow_zero, Nat.mul_one] at *
    omega
theorem Prime.dvd_ch {p k : Nat} (h : Prime p) (hk : 0 < k) (hp : k < p) : p ∣ ch p k := by
  obtain ⟨q, rfl⟩ : ∃ q, p = q + 1 := ⟨p - 1, by have := h.1; omega⟩
  obtain ⟨j, rfl⟩ : ∃ j, k = j + 1 := ⟨k - 1, by omega⟩
  have h1 := ch_mul q j
  have h2 : (q + 1) ∣ (j + 1) * ch (q + 1) (j + 1) := by rw [h1]; exact Nat.dvd_mul_right _ _
  rcases h.dvd_mul h2 with h3 | h3
  · exact absurd (Nat.le_of_dvd (by omega) h3) (by omega)
  · exact h3
theorem sm_dvd {f : Nat → Nat} {p : Nat} : ∀ {n}, (∀ k, k ≤ n → p ∣ f k) → p ∣ sm f n
  | 0, h => h 0 (Nat.le_refl _)
  | n + 1, h => Nat.dvd_add (sm_dvd fun k hk => h k (by omega)) (h (n + 1) (Nat.le_refl _))
/-- Fermat. -/
theorem Prime.fermat' {p : Nat} (h : Prime p) : ∀ a, Eqm p (a ^ p) a
  | 0 => by
    have := h.1
    unfold Eqm
    rw [Nat.zero_pow (by omega)]
  | a + 1 => by
    have ih := h.fermat' a
    obtain ⟨q, hq⟩ : ∃ q, p = q + 2 := ⟨p - 2, by have := h.1; omega⟩
    have hb := binom a p
    have e : sm (fun k => ch p k * a ^ k) p = 1 + sm (fun k => ch p (k + 1) * a ^ (k + 1)) q + a ^ p := by
      rw [hq]
      rw [sm_shift]
      simp only [sm, ch_zero, Nat.pow_zero, Nat.mul_one]
      rw [ch_self]
      have e9 : a ^ (q + 1 + 1) = a ^ (q + 2) := rfl
      omega
    rw [e] at hb
    have hd : p ∣ sm (fun k => ch p (k + 1) * a ^ (k + 1)) q := sm_dvd fun k hk => Nat.dvd_trans (h.dvd_ch (by omega) (by omega)) (Nat.dvd_mul_right _ _)
    obtain ⟨c, hc⟩ := hd
    rw [hc] at hb
    unfold Eqm at *
    rw [hb]
    have e2 : 1 + p * c + a ^ p = (1 + a ^ p) + p * c := by omega
    rw [e2, Nat.add_mul_mod_self_left, Nat.add_mod, ih, ← Nat.add_mod, Nat.add_comm]
theorem Prime.fermat {p a : Nat} (h : Prime p) (ha : ¬ p ∣ a) : Eqm p (a ^ (p - 1)) 1 := by
  have h1 := h.fermat' a
  have h2 := h.1
  have hpos : 0 < a := by
    rcases Nat.eq_zero_or_pos a with h0 | h0
    · subst h0; exact absurd (Nat.dvd_zero p) ha
    · exact h0
  have e : a ^ p = a * a ^ (p - 1) := by
    rw [Nat.mul_comm, ← Nat.pow_succ]; congr 1; omega
  have hk : 1 ≤ a ^ (p - 1) := Nat.pow_pos hpos
  have h3 : p ∣ a * (a ^ (p - 1) - 1) := by
    rw [Nat.mul_sub, Nat.mul_one, ← e]
    have hle : a ≤ a ^ p := by rw [e]; exact Nat.le_mul_of_pos_right _ hk
    exact (eqm_iff_dvd hle).1 h1
  rcases h.dvd_mul h3 with h4 | h4
  · exact absurd h4 ha
  · exact ((eqm_iff_dvd hk).2 h4)

/-! ### Pocklington -/
theorem not_prime {n : Nat} (h2 : 2 ≤ n) (h : ¬ Prime n) : ∃ d, d ∣ n ∧ 2 ≤ d ∧ d < n := by
  have : ¬ ∀ d, d ∣ n → d = 1 ∨ d = n := fun hh => h ⟨h2, hh⟩
  have ⟨d, hd⟩ := Classical.not_forall.1 this
  have ⟨h3, h4⟩ := Classical.not_imp.1 hd
  have h5 := Nat.le_of_dvd (by omega) h3
  have h6 : d ≠ 0 := fun h0 => by subst h0; have := Nat.eq_zero_of_zero_dvd h3; omega
  exact ⟨d, h3, by omega, by omega⟩
theorem exists_prime (n : Nat) : 2 ≤ n → ∃ d, Prime d ∧ d ∣ n := by
  induction n using Nat.strongRecOn with
  | ind n ih =>
    intro h2
    by_cases hp : Prime n
    · exact ⟨n, hp, Nat.dvd_refl _⟩
    · obtain ⟨d, h3, h4, h5⟩ := not_prime h2 hp
      obtain ⟨e, he, hd⟩ := ih d h5 h4
      exact ⟨e, he, Nat.dvd_trans hd h3⟩
theorem prime_of_small {n : Nat} (h2 : 2 ≤ n) (h : ∀ d, Prime d → d ∣ n → n < d * d) : Prime n := by
  apply Classical.byContradiction
  intro hp
  obtain ⟨e, h3, h4, h5⟩ := not_prime h2 hp
  obtain ⟨f, hf⟩ := h3
  have hf2 : 2 ≤ f := by
    rcases f with _ | _ | f
    · omega
    · omega
    · omega
  obtain ⟨d, hd, hde⟩ := exists_prime e h4
  obtain ⟨d', hd', hdf⟩ := exists_prime f hf2
  have l1 := Nat.le_of_dvd (by omega) hde
  have l2 := Nat.le_of_dvd (by omega) hdf
  have a1 := h d hd (Nat.dvd_trans hde ⟨f, hf⟩)
  have a2 := h d' hd' (Nat.dvd_trans hdf ⟨e, by rw [hf, Nat.mul_comm]⟩)
  have b1 : d * d ≤ e * d := Nat.mul_le_mul_right _ l1
  have b2 : d' * d' ≤ f * d' := Nat.mul_le_mul_right _ l2
  have c1 : e * f < e * d := by omega
  have c2 : f * e < f * d' := by rw [Nat.mul_comm f e]; omega
  have c3 := Nat.lt_of_mul_lt_mul_left c1
  have c4 := Nat.lt_of_mul_lt_mul_left c2
  omega
theorem pow_gcd {n b : Nat} (m k : Nat) : Eqm n (b ^ m) 1 → Eqm n (b ^ k) 1 → Eqm n (b ^ (Nat.gcd m k)) 1 := by
  induction m, k using Nat.gcd.induction with
  | H0 k => intro _ h; simpa using h
  | H1 m k hm ih =>
    intro h1 h2
    rw [Nat.gcd_rec]
    refine ih ?_ h1
    have e : b ^ k = (b ^ m) ^ (k / m) * b ^ (k % m) := by
      rw [← Nat.pow_mul, ← Nat.pow_add, Nat.div_add_mod]
    have h3 : Eqm n ((b ^ m) ^ (k / m) * b ^ (k % m)) (1 ^ (k / m) * b ^ (k % m)) := (h1.pow _).mul (Eqm.refl _ _)
    rw [← e, Nat.one_pow, Nat.one_mul] at h3
    exact h3.symm.trans h2
theorem dvd_pred {n d q a x : Nat} (hd : Prime d) (hq : Prime q) (hdn : d ∣ n) (hqn : q ∣ n - 1) (h1 : Eqm n (a ^ (n - 1)) 1) (hn : 1 ≤ n)
    (hx : Eqm n x (a ^ ((n - 1) / q))) (hg : Nat.gcd (x + (n - 1)) n = 1) : q ∣ d - 1 := by
  apply Classical.byContradiction
  intro hc
  have hb : Eqm d ((a ^ ((n - 1) / q)) ^ q) 1 := by
    rw [← Nat.pow_mul, Nat.div_mul_cancel hqn]
    exact h1.of_dvd hdn
  have hnd : ¬ d ∣ a ^ ((n - 1) / q) := by
    intro h
    have h0 : Eqm d (a ^ ((n - 1) / q)) 0 := by
      unfold Eqm
      rw [Nat.mod_eq_zero_of_dvd h]; simp
    have h3 := (h0.pow q).symm.trans hb
    have := hd.1
    rw [Nat.zero_pow hq.pos] at h3
    unfold Eqm at h3
    rw [Nat.mod_eq_of_lt (by omega : 0 < d), Nat.mod_eq_of_lt (by omega : 1 < d)] at h3
    omega
  have h4 := pow_gcd _ _ hb (hd.fermat hnd)
  have h5 : Nat.gcd q (d - 1) = 1 := hq.coprime hc
  rw [h5, Nat.pow_one] at h4
  have h6 : Eqm d x 1 := (hx.of_dvd hdn).trans h4
  have h7 : d ∣ x + (n - 1) := by
    have h8 : Eqm d (x + (n - 1)) (1 + (n - 1)) := h6.add (Eqm.refl _ _)
    rw [show 1 + (n - 1) = n from by omega] at h8
    unfold Eqm at h8
    rw [Nat.mod_eq_zero_of_dvd hdn] at h8
    exact Nat.dvd_of_mod_eq_zero h8
  have h9 := Nat.dvd_gcd h7 hdn
  rw [hg] at h9
  have := Nat.le_of_dvd (by omega) h9
  have := hd.1
  omega
theorem pock {n F : Nat} (h2 : 2 ≤ n) (hF : n ≤ F * F) (h : ∀ d, Prime d → d ∣ n → F ∣ d - 1) : Prime n :=
  prime_of_small h2 fun d hd hdn => by
    have h3 := h d hd hdn
    have := hd.1
    have h4 := Nat.le_of_dvd (by omega) h3
    have h5 : F * F ≤ (d - 1) * (d - 1) := Nat.mul_le_mul h4 h4
    have h6 : (d - 1) * (d - 1) < d * d := Nat.mul_lt_mul'' (by omega) (by omega)
    omega

/-- Powers modulo n, as fuel lasts. -/
def pm (n : Nat) : Nat → Nat → Nat → Nat → Nat
  | 0, _, _, c => c
  | f + 1, b, e, c => pm n f (b * b % n) (e / 2) (if e % 2 = 1 then c * b % n else c)
theorem pm_eq {n : Nat} : ∀ (f b e c : Nat), e < 2 ^ f → Eqm n (pm n f b e c) (c * b ^ e)
  | 0, b, e, c, h => by
    have : e = 0 := by simpa using h
    subst this
    simp [pm, Eqm.refl]
  | f + 1, b, e, c, h => by
    have h2 : e / 2 < 2 ^ f := by rw [Nat.pow_succ] at h; omega
    have ih := pm_eq (n := n) f (b * b % n) (e / 2) (if e % 2 = 1 then c * b % n else c) h2
    have hb : Eqm n ((b * b % n) ^ (e / 2)) (b ^ (2 * (e / 2))) := by
      rw [Nat.pow_mul]
      have : b ^ 2 = b * b := by rw [Nat.pow_succ, Nat.pow_one]
      rw [this]
      exact (Eqm.mod _ _).pow _
    show Eqm n (pm n f (b * b % n) (e / 2) (if e % 2 = 1 then c * b % n else c)) (c * b ^ e)
    refine ih.trans ?_
    by_cases ho : e % 2 = 1
    · rw [if_pos ho]
      refine ((Eqm.mod n (c * b)).mul hb).trans ?_
      have : c * b * b ^ (2 * (e / 2)) = c * b ^ e := by
        rw [Nat.mul_assoc, Nat.mul_comm b, ← Nat.pow_succ, show (2 * (e / 2)).succ = e from by omega]
      rw [this]; rfl
    · rw [if_neg ho]
      refine ((Eqm.refl n c).mul hb).trans ?_
      rw [show 2 * (e / 2) = e from by omega]; rfl
theorem pm_one {n f b e : Nat} (h : e < 2 ^ f) : Eqm n (pm n f b e 1) (b ^ e) := by
  have := pm_eq (n := n) f b e 1 h
  rwa [Nat.one_mul] at this
theorem cert {n d q a f : Nat} (hd : Prime d) (hq : Prime q) (hdn : d ∣ n) (hn : 1 ≤ n) (hqn : (n - 1) % q = 0) (h1 : pm n f a (n - 1) 1 % n = 1 % n) (hf : n - 1 < 2 ^ f)
    (hg : Nat.gcd (pm n f a ((n - 1) / q) 1 + (n - 1)) n = 1) : q ∣ d - 1 :=
  dvd_pred hd hq hdn (Nat.dvd_of_mod_eq_zero hqn) ((pm_one hf).symm.trans h1) hn (pm_one (Nat.lt_of_le_of_lt (Nat.div_le_self _ _) hf)) hg

/-- None of d, d+1, .. divides n. -/
def trial (n : Nat) : Nat → Nat → Bool
  | 0, _ => true
  | f + 1, d => Bool.and (Nat.blt 0 (n % d)) (trial n f (d + 1))
theorem trial_no {n : Nat} : ∀ (f d : Nat), trial n f d = true → ∀ e, d ≤ e → e < d + f → ¬ e ∣ n
  | 0, d, _, e, h1, h2 => by omega
  | f + 1, d, h, e, h1, h2 => by
    simp only [trial, Bool.and_eq_true] at h
    by_cases he : e = d
    · subst he
      intro hd
      have h3 := Nat.mod_eq_zero_of_dvd hd
      rw [h3] at h
      exact absurd h.1 (by decide)
    · exact trial_no f (d + 1) h.2 e (by omega) (by omega)
theorem prime_trial {n f : Nat} (h2 : 2 ≤ n) (hf : n < (f + 2) * (f + 2)) (h : trial n f 2 = true) : Prime n :=
  prime_of_small h2 fun d hd hdn => by
    have := hd.1
    by_cases hlt : d < 2 + f
    · exact absurd hdn (trial_no f 2 h d this hlt)
    · have : (f + 2) * (f + 2) ≤ d * d := Nat.mul_le_mul (by omega) (by omega)
      omega
theorem prime_two : Prime 2 := prime_trial (f := 0) (by decide) (by decide) rfl
theorem prime_127 : Prime 127 := prime_trial (f := 11) (by decide) (by decide) (by decide +kernel)
theorem prime_57467 : Prime 57467 := prime_trial (f := 239) (by decide) (by decide) (by decide +kernel)
theorem prime_75707 : Prime 75707 := prime_trial (f := 275) (by decide) (by decide) (by decide +kernel)
theorem prime_8574133 : Prime 8574133 := prime_trial (f := 2928) (by decide) (by decide) (by decide +kernel)
theorem prime_1919519569386763 : Prime 1919519569386763 := pock (F := 1088914891) (by decide) (by decide) fun d hd hdn => by
  have h0 : 8574133 ∣ d - 1 := cert (n := 1919519569386763) (a := 2) (f := 51) hd prime_8574133 hdn (by decide) (by decide) (by decide +kernel) (by decide) (by decide +kernel)
  have h1 : 127 ∣ d - 1 := cert (n := 1919519569386763) (a := 2) (f := 51) hd prime_127 hdn (by decide) (by decide) (by decide +kernel) (by decide) (by decide +kernel)
  exact Nat.Coprime.mul_dvd_of_dvd_of_dvd (m := 8574133) (n := 127) (by decide) h0 h1
theorem prime_75445702479781427272750846543864801 : Prime 75445702479781427272750846543864801 := pock (F := 145321068039563666441) (by decide) (by decide) fun d hd hdn => by
  have h0 : 1919519569386763 ∣ d - 1 := cert (n := 75445702479781427272750846543864801) (a := 2) (f := 116) hd prime_1919519569386763 hdn (by decide) (by decide) (by decide +kernel) (by decide) (by decide +kernel)
  have h1 : 75707 ∣ d - 1 := cert (n := 75445702479781427272750846543864801) (a := 2) (f := 116) hd prime_75707 hdn (by decide) (by decide) (by decide +kernel) (by decide) (by decide +kernel)
  exact Nat.Coprime.mul_dvd_of_dvd_of_dvd (m := 1919519569386763) (n := 75707) (by decide) h0 h1
theorem prime_74058212732561358302231226437062788676166966415465897661863160754340907 : Prime 74058212732561358302231226437062788676166966415465897661863160754340907 := pock (F := 4335638184405599281083172898336278519067) (by decide) (by decide) fun d hd hdn => by
  have h0 : 75445702479781427272750846543864801 ∣ d - 1 := cert (n := 74058212732561358302231226437062788676166966415465897661863160754340907) (a := 2) (f := 236) hd prime_75445702479781427272750846543864801 hdn (by decide) (by decide) (by decide +kernel) (by decide) (by decide +kernel)
  have h1 : 57467 ∣ d - 1 := cert (n := 74058212732561358302231226437062788676166966415465897661863160754340907) (a := 2) (f := 236) hd prime_57467 hdn (by decide) (by decide) (by decide +kernel) (by decide) (by decide +kernel)
  exact Nat.Coprime.mul_dvd_of_dvd_of_dvd (m := 75445702479781427272750846543864801) (n := 57467) (by decide) h0 h1
theorem prime_57896044618658097711785492504343953926634992332820282019728792003956564819949 : Prime 57896044618658097711785492504343953926634992332820282019728792003956564819949 := pock (F := 74058212732561358302231226437062788676166966415465897661863160754340907) (by decide) (by decide) fun d hd hdn => by
  have h0 : 74058212732561358302231226437062788676166966415465897661863160754340907 ∣ d - 1 := cert (n := 57896044618658097711785492504343953926634992332820282019728792003956564819949) (a := 2) (f := 255) hd prime_74058212732561358302231226437062788676166966415465897661863160754340907 hdn (by decide) (by decide) (by decide +kernel) (by decide) (by decide +kernel)
  exact h0
/-- The prime number of the field. -/
def pp : Nat := 2 ^ 255 - 19
theorem prime_pp : Prime pp := prime_57896044618658097711785492504343953926634992332820282019728792003956564819949
end Go.Cv.Pr
end
