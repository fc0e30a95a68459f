/-
  FieldLaws: the walk closed; arguments of 32 bytes.
-/
import Derived.Test.YtndohjgfjbopnaaLaws
import Derived.WideShapes
set_option linter.unusedSimpArgs false
set_option linter.unusedVariables false
set_option maxRecDepth 20000
namespace Go.Cv
open Go.RowKit
theorem V_ob_eqp (n : Nat) : Eqp (V (ob n)) n := by
  unfold Eqp
  rw [V_ob, Nat.mod_mod]
theorem beqb_ob {x y : Nat} (h : Eqp x y) : beqb (ob x) (ob y) = true := by rw [ob_of h]; exact beqb_self _
theorem nb_ob {k : Nat} (h : k < 2 ^ 255 - 19) : nb k = ob k := by unfold ob; rw [Nat.mod_eq_of_lt h]
end Go.Cv
namespace Go.Proofs.Ytndohjgfjbopnaa
open Go.RowKit Go.Cv Go.Cv.Dig
theorem cell_u8 {W : World} {r : Reach} {base : Nat} {v : Value} (hk : Cell.okWide Try.prog W r base 5 v) : ∃ n : Int, v = .int .u8 n ∧ 0 ≤ n ∧ n < 256 := by
  simp only [Cell.okWide, u5_] at hk
  cases v with
  | int k n =>
    simp only [Cell.ok, u5_] at hk
    obtain ⟨rfl, hn⟩ := hk
    refine ⟨n, rfl, ?_⟩
    simp [IntKind.has, IntKind.min, IntKind.max, IntKind.signed, IntKind.bits] at hn
    omega
  | _ => simp [Cell.ok, u5_] at hk
theorem arg32 {W : World} {r : Reach} {base : Nat} {v : Value} (h : Value.okWide Try.prog W r base 22 v) : ∃ f : Nat → UInt8, v = .agg (bcells f) := by
  simp only [Value.okWide, u22] at h
  obtain ⟨cs, rfl, hs, ts, ht, _, hc⟩ := h
  have h32 : Try.prog.cellsOf 22 = 32 := by kernel_rfl
  have hts : Try.prog.cellTypes Try.prog.depth 22 = some (List.replicate 32 5) := by kernel_rfl
  rw [h32] at hs
  rw [hts] at ht
  injection ht with ht
  subst ht
  have key : ∀ i, i < 32 → ∃ n : Int, cs[i]? = some (.int .u8 n) ∧ 0 ≤ n ∧ n < 256 := by
    intro i hi
    have hg : cs[i]? = some (cs[i]'(by omega)) := Array.getElem?_eq_getElem (by omega)
    obtain ⟨u, hu, hk⟩ := hc i _ hg
    have hu5 : u = 5 := by
      rw [List.getElem?_replicate] at hu
      split at hu
      · exact (Option.some.inj hu).symm
      · cases hu
    rw [hu5] at hk
    obtain ⟨n, hn, h01⟩ := cell_u8 hk
    exact ⟨n, by rw [hg, hn], h01⟩
  refine ⟨fun i => match cs[i]? with | some (.int _ n) => Cv.u8 n | _ => 0, ?_⟩
  refine congrArg Value.agg (Array.ext_getElem? fun i => ?_)
  by_cases hi : i < 32
  · obtain ⟨n, hn, h0, h1⟩ := key i hi
    rw [bcells_get _ hi, hn]
    simp only
    rw [n8_u8]
    rw [Int.emod_eq_of_lt h0 h1]
  · rw [Array.getElem?_eq_none (by omega), Array.getElem?_eq_none (by rw [bcells_size]; omega)]

theorem laws_any (f g h : Nat → UInt8) (w : World) :
    Calls Try.prog 6 #[.agg (bcells f), .agg (bcells g), .agg (bcells h)] w fun e w' => e = .returned (.bool true) ∧ Ext w w' := by
  have z0 : ∀ n, beqb (ob n) (nb 0) = decide (Eqp n 0) := fun n => by
    rw [nb_ob (k := 0) (by decide)]
    exact beqb_mod n 0
  have hX : Eqp (V g * V g) (V (ob (V g * V g))) := (V_ob_eqp _).sy
  refine laws_walk f g h w (beqb_ob ?_) (beqb_ob ?_) (beqb_ob ?_) (beqb_ob ?_) (beqb_ob ?_) (beqb_ob ?_) (beqb_ob ?_) ?_
    (beqb (ob (V f)) (nb 0)) (rtOk (V f)) (ob (pI (V f))) (ob (rtv (V (ob (V g * V g))))) rfl (Lib.hid fun hz w => ?_) (Lib.hid fun hz w => ?_)
    (Lib.hid fun w => froot_e f w) (Lib.hid fun hz w => ?_) (Lib.hid fun w => ?_) (Lib.hid fun hz => ?_) (Lib.hid ?_) (Lib.hid (ob_even _))
  · rw [Nat.add_comm]
  · rw [Nat.mul_comm]
  · refine ((V_ob_eqp _).mul (Eqp.refl _)).tr (Eqp.tr ?_ ((Eqp.refl _).mul (V_ob_eqp _)).sy)
    rw [Nat.mul_assoc]
  · refine ((Eqp.refl _).mul (V_ob_eqp _)).tr (Eqp.tr ?_ ((V_ob_eqp _).add (V_ob_eqp _)).sy)
    rw [Nat.mul_add]
  · refine ((V_ob_eqp _).add (Eqp.refl _)).tr ?_
    rw [Nat.add_assoc]
    have := (Eqp.refl (V f)).add ((Eqp.tr (by rw [Nat.add_comm]) (negp_add (V g)) : Eqp (negp (V g) + V g) 0))
    rwa [Nat.add_zero] at this
  · refine ((V_ob_eqp _).add (Eqp.refl _)).tr (Eqp.tr ?_ ((Eqp.refl _).add (V_ob_eqp _)).sy)
    rw [Nat.add_assoc]
  · rw [V_nb (by decide), Nat.mul_one]
  · rw [z0]
    exact decide_eq_true (negp_add _)
  · rw [z0] at hz
    exact finv_zero f (of_decide_eq_true hz) w
  · rw [z0] at hz
    exact finv_some f (of_decide_eq_false hz) w
  · rw [z0] at hz
    rw [← double (of_decide_eq_false hz) (V_ob_eqp _)]
    exact froot_e (ob (V f + V f)) w
  · exact froot_ok (ob (V g * V g)) (rtOk_sq hX) w
  · rw [z0] at hz
    have hd : ¬ Pr.pp ∣ V f := fun hd => of_decide_eq_false hz ((dvd_iff _).1 hd)
    rw [nb_ob (k := 1) (by decide)]
    exact beqb_ob (((Eqp.refl _).mul (V_ob_eqp _)).tr (pI_mul _ hd))
  · have hb : beqb (ob (rtv (V (ob (V g * V g))))) (ob (V g)) = decide (Eqp (rtv (V (ob (V g * V g)))) (V g)) := beqb_mod _ _
    rw [hb]
    by_cases h1 : Eqp (rtv (V (ob (V g * V g)))) (V g)
    · exact .inl (decide_eq_true h1)
    · refine .inr ⟨decide_eq_false h1, ?_⟩
      rw [z0]
      have h2 := (rtv_two hX).resolve_left h1
      exact decide_eq_true (((V_ob_eqp _).add (Eqp.refl _)).tr h2)
end Go.Proofs.Ytndohjgfjbopnaa
