/-
  The head of all statements of layer 1, and the walk of UtfPairs.
-/
import Derived.Test.YthdniboajbhhiaaDoorUtfC
import Derived.StillTailTactics
set_option linter.unusedSimpArgs false
set_option linter.unusedVariables false
namespace Go.Proofs.YthdniboajbhhiaaDoor
open Go.RowKit Go.Cv Go.Cv.Utf Go.Cv.Dig
theorem codeinfo : (Tryd.prog.info? 28).map (·.comparable) = some true := by kernel_rfl
@[go_sem] theorem eql_err (a b : Int) (w : World) : (binOp .eql 24 (.iface 28 (.int .i64 a)) (.iface 28 (.int .i64 b))).run Tryd.prog w = .ok (.bool (a == b)) w :=
  run_eql_iface_int' w a b Tryd.underlying24 Tryd.underlying28 codeinfo
theorem bad_1 (w : World) (hT : Lib.Utf8Tabs 2 3 w) : Calls Tryd.prog 16 #[.string ⟨#[97, 255]⟩] w fun e w' => e = .returned (.int .i64 1) ∧ Ext w w' := by
  have h := bad_any ⟨#[97, 255]⟩ w hT
  rw [show badAt ⟨#[97, 255]⟩ = 1 from by decide +kernel] at h
  exact h
theorem points_1 (w : World) (hT : Lib.Utf8Tabs 2 3 w) : Calls Tryd.prog 14 #[.string ⟨#[97, 226, 130, 172]⟩] w fun e w' => ∃ A c, e = .returned (.tuple #[.slice (some A) 2 c, .nilIface]) ∧ 2 ≤ c ∧ w'.cell? ⟨A.block, A.off + 1, none⟩ = some (.int .i64 8364) ∧ Ext w w' := by
  refine (points_ok ⟨#[97, 226, 130, 172]⟩ w hT (by decide +kernel) (by decide)).mono ?_
  rintro e w' ⟨v, rfl, ⟨A, n, c, rfl, hn, hc, hr⟩, hx⟩
  rw [show pts ⟨#[97, 226, 130, 172]⟩ = [97, 8364] from by decide +kernel] at hn hr
  obtain ⟨ad, rfl, hcell⟩ := hr.at_ (k := 1) (by decide)
  obtain rfl : 2 = n := hn
  exact ⟨ad, c, rfl, hc, hcell, hx⟩
theorem cut_1 (w : World) (hT : Lib.Utf8Tabs 2 3 w) : Calls Tryd.prog 17 #[.string ⟨#[97, 195, 169]⟩, .int .i64 2] w fun e w' => e = .returned (.tuple #[.string ⟨#[97]⟩, .nilIface]) ∧ Ext w w' := by
  have h := cut_some ⟨#[97, 195, 169]⟩ 2 w hT (by decide +kernel) (by decide) (by decide)
  rw [show (ByteArray.extract ⟨#[97, 195, 169]⟩ 0 (cutN ⟨#[97, 195, 169]⟩ 2)) = ⟨#[97]⟩ from by decide +kernel] at h
  exact h
theorem cmp_1 (w : World) (hT : Lib.Utf8Tabs 2 3 w) : Calls Tryd.prog 10 #[.string ⟨#[97]⟩, .string ⟨#[255]⟩] w fun e w' => e = .returned (.tuple #[.int .i64 0, .iface 28 (.int .i64 7)]) ∧ Ext w w' :=
  cmp_no _ _ w hT (.inr (by decide +kernel))
theorem pair_1 (w : World) : Calls Tryd.prog 13 #[.int .i64 55357, .int .i64 56832] w fun e w' => e = .returned (.tuple #[.int .i64 128512, .nilIface]) ∧ w' = w :=
  pair_ok 55357 56832 w (by decide) (by decide) (by decide) (by decide)

set_option maxRecDepth 8000 in
set_option maxHeartbeats 8000000 in
theorem shown_any (w : World) (hT : Lib.Utf8Tabs 2 3 w) :
    Calls Tryd.prog 9 #[] w fun e w' => e = .returned (.bool true) ∧ Ext w w' := by
  go_enter Tryd.func9, Tryd.ntmps9
  go_wp2_with (first
    | (go_at_call 16; with_reducible refine (bad_1 _ hT).mono ?_; rintro e w1 ⟨rfl, hx1⟩)
    | (go_at_call 14; with_reducible refine (points_1 _ (Utf8Tabs_below hT hx1)).mono ?_; rintro e w2 ⟨A, c, rfl, hc, hcell, hx2⟩)
    | (go_at_call 17; with_reducible refine (cut_1 _ (Utf8Tabs_below hT (hx1.trans hx2))).mono ?_; rintro e w3 ⟨rfl, hx3⟩)
    | (go_at_call 10; with_reducible refine (cmp_1 _ (Utf8Tabs_below hT (hx1.trans (hx2.trans hx3)))).mono ?_; rintro e w4 ⟨rfl, hx4⟩; have hcell4 := Ext.cell (hx3.trans hx4) hcell)
    | (go_at_call 13; with_reducible refine (pair_1 _).mono ?_; rintro e w5 ⟨rfl, rfl⟩))
  go_ret
  exact ⟨rfl, hx1.trans (hx2.trans (hx3.trans hx4))⟩

set_option maxHeartbeats 8000000 in
theorem pairs_any (x y : Int) (w : World) (hT : Lib.Utf8Tabs 2 3 w) (hx : (Lit.int .i64 x).wf = true) (hy : (Lit.int .i64 y).wf = true) :
    Calls Tryd.prog 4 #[.int .i64 x, .int .i64 y] w fun e w' => e = .returned (.bool true) ∧ Ext w w' := by
  have hs := shown_any w hT
  rcases (by omega : x < 55296 ∨ (¬ x < 55296 ∧ 56319 < x) ∨ (¬ x < 55296 ∧ ¬ 56319 < x ∧ y < 56320) ∨ (¬ x < 55296 ∧ ¬ 56319 < x ∧ ¬ y < 56320 ∧ 57343 < y) ∨ (¬ x < 55296 ∧ ¬ 56319 < x ∧ ¬ y < 56320 ∧ ¬ 57343 < y)) with h | ⟨h1, h⟩ | ⟨h1, h2, h⟩ | ⟨h1, h2, h3, h⟩ | ⟨h1, h2, h3, h4⟩
  case inr.inr.inr.inr =>
    have hp := fun w => pair_ok x y w h1 h2 h3 h4
    go_enter Tryd.func4, Tryd.ntmps4
    go_wp2_with (first
      | (go_at_call 9; with_reducible refine hs.mono ?_; rintro e w1 ⟨rfl, hx1⟩)
      | (go_at_call 13; with_reducible refine (hp _).mono ?_; rintro e w5 ⟨rfl, rfl⟩))
    go_ret
    exact ⟨rfl, hx1⟩
  all_goals
    have hp := fun w => pair_no x y w (by omega)
    go_enter Tryd.func4, Tryd.ntmps4
    go_wp2_with (first
      | (go_at_call 9; with_reducible refine hs.mono ?_; rintro e w1 ⟨rfl, hx1⟩)
      | (go_at_call 13; with_reducible refine (hp _).mono ?_; rintro e w5 ⟨rfl, rfl⟩))
    go_ret
    exact ⟨rfl, hx1⟩
end Go.Proofs.YthdniboajbhhiaaDoor
