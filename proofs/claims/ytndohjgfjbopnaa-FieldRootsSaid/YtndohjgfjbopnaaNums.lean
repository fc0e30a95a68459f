/-
  The numbers of the shown examples.
-/
import Derived.Test.YtndohjgfjbopnaaRefA
import Derived.Test.YtndohjgfjbopnaaPrime
set_option linter.unusedSimpArgs false
set_option linter.unusedVariables false
namespace Go.Cv
open Go.RowKit Go.Cv.Dig
theorem bsum_nb (n : Nat) : ∀ k, bsum (nb n) k = n % 2 ^ (8 * k)
  | 0 => by simp [bsum, Nat.mod_one]
  | k + 1 => by
    simp only [bsum]
    rw [bsum_nb n k, show 8 * (k + 1) = 8 * k + 8 from by omega, Nat.pow_add, Nat.mod_mul]
    unfold nb
    rw [UInt8.toNat_ofNat']
theorem V_nb {n : Nat} (h : n < 2 ^ 256) : V (nb n) = n := by
  unfold V
  rw [bsum_nb, Nat.mod_eq_of_lt (by simpa using h)]
theorem V_ob (n : Nat) : V (ob n) = n % (2 ^ 255 - 19) := V_nb (Nat.lt_trans (Nat.mod_lt _ (by decide)) (by decide))
theorem V_lt (f : Nat → UInt8) : V f < 2 ^ 256 := bsum_lt f 32
@[go_sem] theorem beqb_self (f : Nat → UInt8) : beqb f f = true := (beqb_iff f f).2 fun _ _ => rfl
theorem sm_nb (a : UInt8) : bcells (updb (fun _ => 0) 0 a) = bcells (nb a.toNat) := bcells_congr fun i hi => by
  by_cases h0 : i = 0
  · subst h0
    rw [show updb (fun _ => 0) 0 a 0 = a from rfl]
    unfold nb
    apply UInt8.toNat_inj.1
    rw [UInt8.toNat_ofNat', Nat.mul_zero, Nat.pow_zero, Nat.div_one, Nat.mod_eq_of_lt a.toNat_lt]
  · rw [show updb (fun _ => 0) 0 a i = 0 from if_neg h0]
    unfold nb
    apply UInt8.toNat_inj.1
    have h1 := a.toNat_lt
    have h2 : 2 ^ 8 ≤ 2 ^ (8 * i) := Nat.pow_le_pow_right (by decide) (by omega)
    rw [UInt8.toNat_ofNat', Nat.div_eq_of_lt (by omega)]
    rfl
/-- The half of one. -/
def ivr (a : Nat) : Nat := pI a % (2 ^ 255 - 19)
theorem pI_mul (a : Nat) (h : ¬ Pr.pp ∣ a) : Eqp (a * pI a) 1 := by
  have hf := Pr.prime_pp.fermat h
  unfold Pr.Eqm at hf
  obtain ⟨K, hK⟩ : ∃ K, K = 2 ^ 255 - 21 := ⟨_, rfl⟩
  have e : Pr.pp - 1 = K + 1 := by rw [hK]; decide
  rw [e, Nat.pow_succ] at hf
  unfold pI Eqp
  rw [← hK, Nat.mul_comm]
  exact hf
theorem mul_ivr {a : Nat} (h : Eqp (a * pI a) 1) : ob (a * ivr a) = nb 1 := by
  unfold ob ivr
  unfold Eqp at h
  rw [Nat.mul_mod_mod, h]
theorem mul_i2 : ob (2 * ivr 2) = nb 1 := mul_ivr (pI_mul 2 (by decide +kernel))
theorem pE_val (b v : Nat) (h : Pr.pm (2 ^ 255 - 19) 252 b (2 ^ 252 - 2) 1 % (2 ^ 255 - 19) = v % (2 ^ 255 - 19)) : Eqp (pE b) v := by
  have hp := Pr.pm_one (n := 2 ^ 255 - 19) (f := 252) (b := b) (e := 2 ^ 252 - 2) (by decide)
  unfold Pr.Eqm at hp
  obtain ⟨K, hK⟩ : ∃ K, K = 2 ^ 252 - 2 := ⟨_, rfl⟩
  unfold pE Eqp
  rw [← hK] at hp h ⊢
  rw [← hp]
  exact h
theorem rtc_no_ {a x : Nat} (h1 : Eqp (pE a) x) (h2 : ¬ Eqp (x * x) a) : Eqp (rtc a) (x * rm1) := by
  unfold rtc
  rw [if_neg (fun h => h2 ((h1.mul h1).sy.tr h))]
  exact h1.mul (Eqp.refl rm1)
theorem rtOk_no {a x : Nat} (h1 : Eqp (pE a) x) (h2 : ¬ Eqp (x * x) a) (h3 : ¬ Eqp (x * rm1 * (x * rm1)) a) : rtOk a = false := by
  have h := rtc_no_ h1 h2
  unfold rtOk
  exact decide_eq_false fun h4 => h3 ((h.mul h).sy.tr h4)
theorem rtOk_yes {a x : Nat} (h1 : Eqp (pE a) x) (h2 : ¬ Eqp (x * x) a) (h3 : Eqp (x * rm1 * (x * rm1)) a) : rtOk a = true := by
  have h := rtc_no_ h1 h2
  unfold rtOk
  exact decide_eq_true ((h.mul h).tr h3)
theorem pE_4 : Eqp (pE 4) 39362322753415011913614158609977084030892133031847780325488042146247659569504 := pE_val 4 _ (by decide +kernel)
theorem pE_2 : Eqp (pE 2) 19681161376707505956807079304988542015446066515923890162744021073123829784753 := pE_val 2 _ (by decide +kernel)
theorem rtOk_4 : rtOk 4 = true := rtOk_yes pE_4 (by decide +kernel) (by decide +kernel)
theorem rtOk_2 : rtOk 2 = false := rtOk_no pE_2 (by decide +kernel) (by decide +kernel)
theorem ob_rtv {a x : Nat} (h : Eqp (rtc a) x) (hx : ob (if x % (2 ^ 255 - 19) % 2 = 1 then 0 + negp x else x) = nb 2) : ob (rtv a) = nb 2 := by
  unfold Eqp at h
  unfold rtv negp
  unfold negp at hx
  rw [h]
  split
  · rename_i h1
    rw [if_pos h1] at hx
    exact hx
  · rename_i h1
    rw [if_neg h1] at hx
    rw [← hx]
    exact ob_of h
theorem rtv_4 : ob (rtv 4) = nb 2 := ob_rtv (rtc_no_ pE_4 (by decide +kernel)) (by
  unfold ob
  congr 1)
end Go.Cv
