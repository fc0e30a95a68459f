/-
  errors.Is at an api.Code, after the guide's worked walk of errors.Is (SentryIs).
-/
import Derived.Test.YtjnbbfhoegeppaaDoorDkH
import Derived.LaidEql
import Derived.Stop.Asserts
set_option linter.unusedSimpArgs false
set_option linter.unusedVariables false
namespace Go.Proofs.YtjnbbfhoegeppaaDoor
open Go.RowKit Go.Extern.Stop Go.Stop Go.Extern Go.Cv
theorem wi_typeOf (v : Value) (w : World) : (Extern.ReflectliteType.typeOf #[.iface 34 v]).run Tryd.prog w = .ok (.iface 78 (.agg #[.pointer (some ⟨3, 34, none⟩)])) w := by kernel_rfl
theorem wi_comparable (w : World) : ((Extern.ReflectliteType.method fun t => do Go.Extern.Rtype.noPackHeld "Comparable" t; (fun a => Value.bool a.comparable) <$> typeInfo t) #[.agg #[.pointer (some ⟨3, 34, none⟩)]]).run Tryd.prog w = .ok (.bool true) w := by kernel_rfl
theorem wi_methodComparable (v : Value) (w : World) : (Go.method 239 78 v "Comparable").run Tryd.prog w = .ok (79, v) w := by kernel_rfl
theorem wi_noIs (v : Value) (xT : TypeId) (w : World) : (Instr.typeAssert (.iface 34 v) xT 80 true).run Tryd.prog w = .ok (.tuple #[.nilIface, .bool false]) w := run_typeAssert_lacksB Tryd.underlying80 (by kernel_rfl) (by kernel_rfl) v xT w
theorem wi_noU (v : Value) (xT : TypeId) (w : World) : (Instr.typeAssert (.iface 34 v) xT 83 true).run Tryd.prog w = .ok (.tuple #[.nilIface, .bool false]) w := run_typeAssert_lacksB Tryd.underlying83 (by kernel_rfl) (by kernel_rfl) v xT w
theorem wi_noV (v : Value) (xT : TypeId) (w : World) : (Instr.typeAssert (.iface 34 v) xT 84 true).run Tryd.prog w = .ok (.tuple #[.nilIface, .bool false]) w := run_typeAssert_lacksB Tryd.underlying84 (by kernel_rfl) (by kernel_rfl) v xT w
set_option maxHeartbeats 4000000 in
theorem is_nil (c : Int) (w : World) :
    Calls Tryd.prog 20 #[.nilIface, .iface 34 (.int .i64 c)] w fun e w' => e = .returned (.bool false) ∧ w = w' := by
  have hnl := fun w => run_eql_iface_nil_left (P := Tryd.prog) (w := w) 34 (.int .i64 c) Tryd.underlying27
  go_enter Tryd.func20, Tryd.ntmps20
  go_wp2
  go_ret
  exact ⟨rfl, rfl⟩
set_option maxHeartbeats 4000000 in
theorem is_yes (c : Int) (w : World) :
    Calls Tryd.prog 20 #[.iface 34 (.int .i64 c), .iface 34 (.int .i64 c)] w fun e w' => e = .returned (.bool true) ∧ w = w' := by
  have h8 := @run_callFunc_extern Tryd.prog 34 _ Extern.ReflectliteType.typeOf Tryd.func34 (by kernel_rfl) (by kernel_rfl) (by kernel_rfl) (by kernel_rfl)
  have h32 := @run_callFunc_extern Tryd.prog 79 _ (Extern.ReflectliteType.method fun t => do Go.Extern.Rtype.noPackHeld "Comparable" t; pure (.bool (← typeInfo t).comparable)) Tryd.func79 (by kernel_rfl) (by kernel_rfl) (by kernel_rfl) (by kernel_rfl)
  have tT := wi_typeOf
  have cT := wi_comparable
  have mR := wi_methodComparable
  go_enter Tryd.func20, Tryd.ntmps20
  go_wp2
  refine wp_loop_rounds 1 ?_
  rw [rounds_succ]
  go_wp2
  go_ret
  exact ⟨rfl, rfl⟩
set_option maxHeartbeats 4000000 in
theorem is_no (a c : Int) (w : World) (hne : a ≠ c) :
    Calls Tryd.prog 20 #[.iface 34 (.int .i64 a), .iface 34 (.int .i64 c)] w fun e w' => e = .returned (.bool false) ∧ w = w' := by
  have h8 := @run_callFunc_extern Tryd.prog 34 _ Extern.ReflectliteType.typeOf Tryd.func34 (by kernel_rfl) (by kernel_rfl) (by kernel_rfl) (by kernel_rfl)
  have h32 := @run_callFunc_extern Tryd.prog 79 _ (Extern.ReflectliteType.method fun t => do Go.Extern.Rtype.noPackHeld "Comparable" t; pure (.bool (← typeInfo t).comparable)) Tryd.func79 (by kernel_rfl) (by kernel_rfl) (by kernel_rfl) (by kernel_rfl)
  have tT := wi_typeOf
  have cT := wi_comparable
  have mR := wi_methodComparable
  have nW := wi_noIs
  have uW := wi_noU
  have vW := wi_noV
  have hb : (a == c) = false := by simpa using hne
  go_enter Tryd.func20, Tryd.ntmps20
  go_wp2
  refine wp_loop_rounds 1 ?_
  rw [rounds_succ]
  go_wp2
  go_ret
  exact ⟨rfl, rfl⟩
/-- errors.Is(err, code) where err is one of api's, by its number. -/
theorem is_code (n c : Nat) (w : World) :
    Calls Tryd.prog 20 #[errV n, .iface 34 (.int .i64 (c : Nat))] w fun e w' => e = .returned (.bool (decide (n = c ∧ n ≠ 0))) ∧ w = w' := by
  by_cases h0 : n = 0
  · subst h0
    have e : decide ((0 : Nat) = c ∧ (0 : Nat) ≠ 0) = false := by simp
    rw [e]
    exact is_nil _ w
  · rw [errV_ne h0]
    by_cases h : n = c
    · subst h
      have e : decide (n = n ∧ n ≠ 0) = true := by simp [h0]
      rw [e]
      exact is_yes _ w
    · have e : decide (n = c ∧ n ≠ 0) = false := by simp [h]
      rw [e]
      exact is_no _ _ w (by omega)
end Go.Proofs.YtjnbbfhoegeppaaDoor
