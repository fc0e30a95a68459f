/-
  Plain laws: which numbers are squares modulo 2^255 - 19, and what their roots are.
-/
import Derived.Test.YtndohjgfjbopnaaNums
set_option linter.unusedSimpArgs false
set_option linter.unusedVariables false
namespace Go.Cv
open Go.RowKit Go.Cv.Pr
theorem dvd_iff (a : Nat) : Pr.pp ∣ a ↔ Eqp a 0 := by
  unfold Eqp
  rw [Nat.zero_mod]
  exact Nat.dvd_iff_mod_eq_zero ..
theorem Eqp.cancel {a b c : Nat} (h : Eqp (a + c) (b + c)) : Eqp a b := by
  unfold Eqp at *
  omega
theorem negp_add (n : Nat) : Eqp (n + negp n) 0 := by
  have h := Nat.mod_lt n (show 2 ^ 255 - 19 > 0 by decide)
  unfold Eqp negp
  omega
/-- What makes nought with n is what is owed to n. -/
theorem neg_unique {a n : Nat} (h : Eqp (a + n) 0) : Eqp a (negp n) := by
  have h2 := sub_eqp h
  rwa [Nat.zero_add] at h2
theorem negp_mul (a b : Nat) : Eqp (negp a * b) (negp (a * b)) := by
  apply neg_unique
  have h := (negp_add a).mul (Eqp.refl b)
  rw [Nat.add_mul, Nat.zero_mul, Nat.add_comm] at h
  exact h
theorem negp_negp (a : Nat) : Eqp (negp (negp a)) a := by
  refine (neg_unique (a := a) ?_).sy
  exact negp_add a
theorem negp_congr {a b : Nat} (h : Eqp a b) : negp a = negp b := by unfold negp; rw [h]
/-- Two numbers with one square are alike, or one is what is owed to the other. -/
theorem root_two {a b : Nat} (h : Eqp (a * a) (b * b)) : Eqp a b ∨ Eqp (a + b) 0 := by
  have h1 : Eqp ((a + negp b) * (a + b)) 0 := by
    have e : (a + negp b) * (a + b) = a * a + (a * b + negp b * a) + negp b * b := by
      rw [Nat.mul_add, Nat.add_mul, Nat.add_mul]
      omega
    have h2 : Eqp (a * b + negp b * a) 0 := by
      rw [Nat.mul_comm a b]
      exact ((Eqp.refl _).add (negp_mul b a)).tr (negp_add _)
    have h3 : Eqp (a * a + negp b * b) 0 := (h.add (negp_mul b b)).tr (negp_add _)
    rw [e]
    have h4 := h3.add h2
    rw [Nat.add_zero] at h4
    refine Eqp.tr ?_ h4
    show _ % _ = _ % _
    congr 1
    omega
  rcases prime_pp.dvd_mul ((dvd_iff _).2 h1) with h5 | h5
  · left
    have h6 := (dvd_iff _).1 h5
    have h7 := neg_unique h6
    exact h7.tr (negp_negp b)
  · right
    exact (dvd_iff _).1 h5
theorem rm1_sq : Eqp (rm1 * rm1 + 1) 0 := by decide +kernel
/-- Half of p - 1. -/
def hp : Nat := 2 ^ 254 - 10
theorem hp_two : hp + hp = Pr.pp - 1 := by decide
theorem hp_E : 4 * (2 ^ 252 - 2) = hp + 2 := by decide
/-- The fourth power of what is tried. -/
theorem pE_four (x : Nat) : (pE x * pE x) * (pE x * pE x) = x ^ hp * (x * x) := by
  obtain ⟨E, hE⟩ : ∃ E, E = 2 ^ 252 - 2 := ⟨_, rfl⟩
  have h1 := hp_E
  unfold pE
  rw [← hE] at h1 ⊢
  obtain ⟨H, hH⟩ : ∃ H, H = hp := ⟨_, rfl⟩
  rw [← hH] at h1 ⊢
  rw [← Nat.pow_add, ← Nat.pow_add, ← Nat.pow_two, ← Nat.pow_add]
  congr 1
  omega
theorem rtOk_of_one {x : Nat} (h : Eqp (x ^ hp) 1) : rtOk x = true := by
  have h4 := pE_four x
  have h5 : Eqp ((pE x * pE x) * (pE x * pE x)) (x * x) := by
    rw [h4]
    have := h.mul (Eqp.refl (x * x))
    rwa [Nat.one_mul] at this
  unfold rtOk
  refine decide_eq_true ?_
  unfold rtc
  generalize pE x = r at *
  split
  · assumption
  · rename_i hn
    rcases root_two h5 with h6 | h6
    · exact absurd h6 hn
    · -- the square is what is owed to x
      have h7 := neg_unique (a := x) (n := r * r) (by rw [Nat.add_comm]; exact h6)
      have h8 : Eqp (rm1 * rm1) (negp 1) := neg_unique rm1_sq
      have e : r * rm1 * (r * rm1) = r * r * (rm1 * rm1) := Nat.mul_mul_mul_comm ..
      rw [e]
      have h9 := (Eqp.refl (r * r)).mul h8
      refine h9.tr ?_
      rw [Nat.mul_comm]
      refine (negp_mul 1 (r * r)).tr ?_
      rw [Nat.one_mul]
      exact h7.sy
theorem one_of_sq {x b : Nat} (hb : ¬ Pr.pp ∣ b) (h : Eqp (b * b) x) : Eqp (x ^ hp) 1 := by
  have hf := prime_pp.fermat hb
  have h1 : Eqp ((b * b) ^ hp) (x ^ hp) := h.pow hp
  have h2 := hp_two
  obtain ⟨H, hH⟩ : ∃ H, H = hp := ⟨_, rfl⟩
  rw [← hH] at h1 h2 ⊢
  rw [← h2, Nat.pow_add, ← Nat.mul_pow] at hf
  exact h1.sy.tr hf
theorem rtOk_sq {x b : Nat} (h : Eqp (b * b) x) : rtOk x = true := by
  by_cases hb : Pr.pp ∣ b
  · have h0 := (dvd_iff b).1 hb
    have hx : Eqp x 0 := h.sy.tr (h0.mul h0)
    have hp0 : Eqp (pE x) 0 := by
      obtain ⟨E, hE⟩ : ∃ E, E + 1 = 2 ^ 252 - 2 := ⟨2 ^ 252 - 3, by decide⟩
      unfold pE
      rw [← hE, Nat.pow_succ]
      exact ((Eqp.refl _).mul hx).tr (by rw [Nat.mul_zero])
    unfold rtOk
    refine decide_eq_true ?_
    unfold rtc
    have h1 : Eqp (pE x * pE x) x := (hp0.mul hp0).tr hx.sy
    rw [if_pos h1]
    exact h1
  · exact rtOk_of_one (one_of_sq hb h)
theorem one_of_rtOk {x : Nat} (hx : ¬ Eqp x 0) (h : rtOk x = true) : Eqp (x ^ hp) 1 := by
  have h1 : Eqp (rtc x * rtc x) x := of_decide_eq_true h
  refine one_of_sq (b := rtc x) (fun hd => hx ?_) h1
  have h0 := (dvd_iff _).1 hd
  exact h1.sy.tr (h0.mul h0)
theorem euler {x : Nat} (hx : ¬ Eqp x 0) : Eqp (x ^ hp) 1 ∨ Eqp (x ^ hp + 1) 0 := by
  have hf := prime_pp.fermat (fun hd => hx ((dvd_iff x).1 hd))
  have h2 := hp_two
  obtain ⟨H, hH⟩ : ∃ H, H = hp := ⟨_, rfl⟩
  rw [← hH] at h2 ⊢
  rw [← h2, Nat.pow_add] at hf
  exact root_two (b := 1) hf
theorem two_hp (t : Nat) (ht : t = 2) : Eqp (t ^ hp + 1) 0 := by
  have h : ∀ b : Nat, Pr.pm (2 ^ 255 - 19) 254 b (2 ^ 254 - 10) 1 % (2 ^ 255 - 19) = (2 ^ 255 - 20) → Eqp (b ^ hp + 1) 0 := by
    intro b hb
    have hq := Pr.pm_one (n := 2 ^ 255 - 19) (f := 254) (b := b) (e := 2 ^ 254 - 10) (by decide)
    unfold Pr.Eqm at hq
    rw [hb] at hq
    have e : hp = 2 ^ 254 - 10 := rfl
    rw [← e] at hq
    generalize b ^ hp = X at *
    unfold Eqp
    omega
  exact h t (by rw [ht]; decide +kernel)
/-- Of a number and its double just one is a square. -/
theorem double {x y : Nat} (hx : ¬ Eqp x 0) (hy : Eqp y (x + x)) : rtOk y = !rtOk x := by
  obtain ⟨t, ht⟩ : ∃ t, t = 2 := ⟨_, rfl⟩
  have hxy : Eqp (y ^ hp) (t ^ hp * x ^ hp) := by
    rw [← Nat.mul_pow]
    refine Eqp.pow ?_ hp
    rw [ht, Nat.two_mul]
    exact hy
  have hy0 : ¬ Eqp y 0 := fun h0 => by
    have h2 : Eqp (2 * x) 0 := by rw [Nat.two_mul]; exact hy.sy.tr h0
    rcases prime_pp.dvd_mul ((dvd_iff _).2 h2) with h3 | h3
    · exact absurd h3 (by decide +kernel)
    · exact hx ((dvd_iff _).1 h3)
  have hne : ∀ z, Eqp (z ^ hp) 1 → Eqp (z ^ hp + 1) 0 → False := fun z ha hb => by
    have := (ha.sy.add (Eqp.refl 1)).tr hb
    revert this
    decide
  have t2 := neg_unique (two_hp t ht)
  have tt : Eqp (t ^ hp * x ^ hp) (negp (x ^ hp)) := by
    refine (t2.mul (Eqp.refl (x ^ hp))).tr ((negp_mul 1 _).tr ?_)
    rw [Nat.one_mul]
  have hyn : Eqp (y ^ hp + x ^ hp) 0 := by
    refine ((hxy.tr tt).add (Eqp.refl (x ^ hp))).tr ?_
    rw [Nat.add_comm]
    exact negp_add _
  cases hr : rtOk x with
  | true =>
    have h3 := one_of_rtOk hx hr
    cases hs : rtOk y with
    | false => rfl
    | true =>
      have h4 := one_of_rtOk hy0 hs
      have := ((h4.add h3).sy.tr hyn)
      revert this
      decide
  | false =>
    have h3 : Eqp (x ^ hp + 1) 0 := by
      rcases euler hx with h | h
      · rw [rtOk_of_one h] at hr
        exact absurd hr (by decide)
      · exact h
    have h4 : Eqp (y ^ hp) 1 := by
      have h5 := neg_unique hyn
      have h6 := neg_unique h3
      refine h5.tr ?_
      rw [negp_congr h6]
      exact negp_negp 1
    rw [rtOk_of_one h4]
    rfl
theorem rtv_two {x b : Nat} (h : Eqp (b * b) x) : Eqp (rtv x) b ∨ Eqp (rtv x + b) 0 := by
  have h1 : Eqp (rtc x * rtc x) x := of_decide_eq_true (rtOk_sq h)
  have h2 := root_two (h1.tr h.sy)
  unfold rtv
  split
  · rw [Nat.zero_add]
    rcases h2 with h3 | h3
    · right
      rw [negp_congr h3, Nat.add_comm]
      exact negp_add b
    · left
      rw [negp_congr (neg_unique h3)]
      exact negp_negp b
  · exact h2
theorem even_num {q r : Nat} (h : r < q) (hq : q % 2 = 1) (h1 : r % 2 = 1) : (q - r) % q % 2 = 0 := by
  have e : (q - r) % q = q - r := Nat.mod_eq_of_lt (by omega)
  rw [e]
  omega
theorem rtv_even (x : Nat) : rtv x % (2 ^ 255 - 19) % 2 = 0 := by
  unfold rtv
  generalize rtc x = r
  have h := Nat.mod_lt r (show 2 ^ 255 - 19 > 0 by decide)
  by_cases h1 : r % (2 ^ 255 - 19) % 2 = 1
  · rw [if_pos h1, Nat.zero_add]
    unfold negp
    exact even_num h (by decide) h1
  · rw [if_neg h1]
    exact (Nat.mod_two_eq_zero_or_one _).resolve_right h1
theorem ob_even (x : Nat) : ob (rtv x) 0 % 2 = 0 := by
  have h := rtv_even x
  have h2 : (ob (rtv x) 0).toNat = rtv x % (2 ^ 255 - 19) % 2 ^ 8 := by
    unfold ob nb
    rw [UInt8.toNat_ofNat', Nat.mul_zero, Nat.pow_zero, Nat.div_one]
  generalize rtv x % (2 ^ 255 - 19) = N at *
  apply UInt8.toNat_inj.1
  rw [UInt8.toNat_mod, h2, show (2 : UInt8).toNat = 2 from rfl, show (0 : UInt8).toNat = 0 from rfl]
  omega
end Go.Cv
