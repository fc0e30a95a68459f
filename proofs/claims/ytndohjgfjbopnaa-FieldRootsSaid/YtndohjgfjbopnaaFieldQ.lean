/-
  FieldSums, FieldInvs, FieldRoots: the walks closed.
-/
import Derived.Test.YtndohjgfjbopnaaLawInvs
import Derived.Test.YtndohjgfjbopnaaFieldP
set_option linter.unusedSimpArgs false
set_option linter.unusedVariables false
set_option maxRecDepth 20000
namespace Go.Cv
open Go.RowKit
theorem nb_zero : nb 0 = fun _ => 0 := by
  funext j
  unfold nb
  rw [Nat.zero_div]
  rfl
theorem e_add (a b : Nat) : beqb (ob (a + b)) (nb ((a % (2 ^ 255 - 19) + b % (2 ^ 255 - 19)) % (2 ^ 255 - 19))) = true := by
  rw [← Nat.add_mod]; exact beqb_self _
theorem e_mul (a b : Nat) : beqb (ob (a * b)) (nb ((a % (2 ^ 255 - 19) * (b % (2 ^ 255 - 19))) % (2 ^ 255 - 19))) = true := by
  rw [← Nat.mul_mod]; exact beqb_self _
theorem neg_ref (a b : Nat) : (a + negp b) % (2 ^ 255 - 19) = (a % (2 ^ 255 - 19) + 2 * (2 ^ 255 - 19) - b % (2 ^ 255 - 19)) % (2 ^ 255 - 19) := by
  have h := Nat.mod_lt b (show 0 < 2 ^ 255 - 19 by decide)
  unfold negp
  omega
theorem e_sub (a b : Nat) : beqb (ob (a + negp b)) (nb ((a % (2 ^ 255 - 19) + 2 * (2 ^ 255 - 19) - b % (2 ^ 255 - 19)) % (2 ^ 255 - 19))) = true := by
  rw [← neg_ref]; exact beqb_self _
theorem e_inv (a P : Nat) (hP : P = 2 ^ 255 - 19) : beqb (ob (pI a)) (nb ((a % P) ^ (P - 2) % P)) = true := by
  rw [← Nat.pow_mod]
  have h : ob (pI a) = nb (a ^ (P - 2) % P) := by
    unfold ob pI
    rw [← hP, show 2 ^ 255 - 21 = P - 2 from by omega]
  rw [h]; exact beqb_self _
theorem rm_ref (P e : Nat) (hP : P = 2 ^ 255 - 19) (he : e = (P - 1) / 2 / 2) : 2 ^ e % P = rm1 % P := by
  have h1 : e = (2 ^ 255 - 20) / 2 / 2 := by rw [he, hP]
  have h2 : e < 2 ^ 254 := by omega
  have h := Pr.pm_one (n := P) (b := 2) h2
  unfold Pr.Eqm at h
  rw [← h]
  clear h h2 he
  subst h1 hP
  decide +kernel
theorem root_ref (a P r0 r : Nat) (hP : P = 2 ^ 255 - 19) (h0 : r0 = pE a % P) (hr : r = rtc a % P) :
    r0 = (a % P) ^ ((P + 3) / 2 / 2 / 2) % P ∧ ((r0 * r0) % P = a % P → r = r0) ∧ ((r0 * r0) % P ≠ a % P → r = (r0 * (2 ^ ((P - 1) / 2 / 2) % P)) % P) ∧
    rtOk a = decide ((r * r) % P = a % P) ∧ (rtOk a = true → beqb (ob (rtv a)) (nb (if r % 2 = 1 then (0 + 2 * P - r) % P else r)) = true) := by
  have hc : (r0 * r0) % P = a % P ↔ Eqp (pE a * pE a) a := by
    rw [h0, ← Nat.mul_mod, hP]; try exact Iff.rfl
  have hk : (r * r) % P = a % P ↔ Eqp (rtc a * rtc a) a := by
    rw [hr, ← Nat.mul_mod, hP]; try exact Iff.rfl
  refine ⟨?_, fun h => ?_, fun h => ?_, ?_, fun _ => ?_⟩
  · rw [h0, ← Nat.pow_mod]
    unfold pE
    rw [show 2 ^ 252 - 2 = (P + 3) / 2 / 2 / 2 from by omega]
  · rw [hr, h0]
    unfold rtc
    rw [if_pos (hc.1 h)]
  · rw [rm_ref P _ hP rfl, hr, h0, ← Nat.mul_mod]
    unfold rtc
    rw [if_neg fun h2 => h (hc.2 h2)]
  · unfold rtOk
    by_cases h : Eqp (rtc a * rtc a) a
    · rw [decide_eq_true h, decide_eq_true (hk.2 h)]
    · rw [decide_eq_false h, decide_eq_false fun h2 => h (hk.1 h2)]
  · have e : rtv a % (2 ^ 255 - 19) = if r % 2 = 1 then (0 + 2 * P - r) % P else r := by
      unfold rtv
      rw [← hP, ← hr]
      split
      · rw [hP, neg_ref, ← hP, ← hr, Nat.zero_mod]
      · exact hr.symm
    unfold ob
    rw [e]
    exact beqb_self _
end Go.Cv
namespace Go.Proofs.Ytndohjgfjbopnaa
open Go.RowKit Go.Cv Go.Cv.Dig
theorem sums_any (f g : Nat → UInt8) (w : World) :
    Calls Try.prog 5 #[.agg (bcells f), .agg (bcells g)] w fun e w' => e = .returned (.bool true) ∧ Ext w w' :=
  sums_walk f g w (V f % (2 ^ 255 - 19)) (V g % (2 ^ 255 - 19)) _ _ _ (rin_any f) (rin_any g)
    (fun w v1 v2 h1 h2 => radd_any w v1 v2 _ _ h1 h2)
    (fun w v1 v2 h1 h2 => rsub_any w v1 v2 _ _ h1 h2 (Nat.lt_of_lt_of_le (Nat.mod_lt _ (by decide)) (by decide)))
    (fun w v1 v2 h1 h2 => rmul_any w v1 v2 _ _ h1 h2) (e_add _ _) (e_sub _ _) (e_mul _ _) (beqb_self _)
theorem invs_any (f : Nat → UInt8) (w : World) :
    Calls Try.prog 3 #[.agg (bcells f)] w fun e w' => e = .returned (.bool true) ∧ Ext w w' := by
  obtain ⟨P, hP⟩ : ∃ P, P = 2 ^ 255 - 19 := ⟨_, rfl⟩
  have hin := rin_any f
  rw [← hP] at hin
  have hEq : Eqp (V f) 0 ↔ V f % P = 0 := by
    unfold Eqp
    rw [← hP, Nat.zero_mod]
  by_cases h : Eqp (V f) 0
  · exact invs_walk f w (V f % P) hin (fun _ => 0) errZero ((V f % P) ^ (P - 2) % P) (finv_zero f h) (fun _ => ⟨rfl, by rw [nb_zero]; exact beqb_self _⟩) (fun h2 => absurd (hEq.1 h) h2)
      (fun w v hv => rinv_any w v _ P hP hv)
  · exact invs_walk f w (V f % P) hin (ob (pI (V f))) .nilIface ((V f % P) ^ (P - 2) % P) (finv_some f h) (fun h2 => absurd (hEq.2 h2) h) (fun _ => ⟨rfl, e_inv _ P hP⟩)
      (fun w v hv => rinv_any w v _ P hP hv)
theorem roots_any (f : Nat → UInt8) (w : World) :
    Calls Try.prog 4 #[.agg (bcells f)] w fun e w' => e = .returned (.bool true) ∧ Ext w w' := by
  obtain ⟨P, hP⟩ : ∃ P, P = 2 ^ 255 - 19 := ⟨_, rfl⟩
  have hin := rin_any f
  rw [← hP] at hin
  obtain ⟨r0, h0⟩ : ∃ r0, r0 = pE (V f) % P := ⟨_, rfl⟩
  obtain ⟨r, hr⟩ : ∃ r, r = rtc (V f) % P := ⟨_, rfl⟩
  obtain ⟨k1, k2, k3, k4, k5⟩ := root_ref (V f) P r0 r hP h0 hr
  have hJ : ∀ w v, Num w v (V f % P) 11 → Calls Try.prog 20 #[v] w fun e w' => ∃ v, e = .returned (.tuple #[v, .bool (rtOk (V f))]) ∧ (rtOk (V f) = true → Num w' v (if r % 2 = 1 then (0 + 2 * P - r) % P else r) 11) ∧ Ext w w' := by
    intro w v hv
    refine (rroot_any w v (V f % P) P hP hv r0 r k1 k2 k3).mono ?_
    rintro e w' ⟨v, rfl, h1, hx⟩
    exact ⟨v, by rw [k4], fun h => h1 (by rw [k4] at h; exact of_decide_eq_true h), hx⟩
  cases hk : rtOk (V f) with
  | true =>
    rw [hk] at hJ
    exact roots_walk f w (V f % P) hin (ob (rtv (V f))) .nilIface _ true (froot_ok f hk) (fun h => by cases h) (fun _ => ⟨rfl, k5 hk⟩) (fun w v hv => (hJ w v hv).mono fun e w' ⟨v, h1, h2, h3⟩ => ⟨v, h1, fun _ => h2 rfl, h3⟩)
  | false =>
    rw [hk] at hJ
    exact roots_walk f w (V f % P) hin (fun _ => 0) errNone 0 false (froot_no f hk) (fun _ => ⟨rfl, by rw [nb_zero]; exact beqb_self _⟩) (fun h => by cases h) (fun w v hv => (hJ w v hv).mono fun e w' ⟨v, h1, h2, h3⟩ => ⟨v, h1, fun h => absurd h (by decide), h3⟩)
end Go.Proofs.Ytndohjgfjbopnaa
