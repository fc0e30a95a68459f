/-
  errors.Is and coveylaw00.Is at a *api.Fault, after the guide's worked walk of errors.Is (SentryIs).
-/
import Derived.Test.YtjbomaihabldjaaDoorBaseAs
set_option linter.unusedSimpArgs false
set_option linter.unusedVariables false
namespace Go.Proofs.YtjbomaihabldjaaDoor
open Go.RowKit Go.Extern.Stop Go.Stop Go.Extern Go.Cv
theorem codeinfo : (Tryd.prog.info? 34).map (·.comparable) = some true := by kernel_rfl
@[go_sem] theorem eql_err (a b : Int) (w : World) : (binOp .eql 28 (.iface 34 (.int .i64 a)) (.iface 34 (.int .i64 b))).run Tryd.prog w = .ok (.bool (a == b)) w :=
  run_eql_iface_int' w a b Tryd.underlying28 Tryd.underlying34 codeinfo
theorem fi_typeOf (v : Value) (w : World) : (Extern.ReflectliteType.typeOf #[.iface 34 v]).run Tryd.prog w = .ok (.iface 72 (.agg #[.pointer (some ⟨2, 34, none⟩)])) w := by kernel_rfl
theorem fi_comparable (w : World) : ((Extern.ReflectliteType.method fun t => do Go.Extern.Rtype.noPackHeld "Comparable" t; (fun a => Value.bool a.comparable) <$> typeInfo t) #[.agg #[.pointer (some ⟨2, 34, none⟩)]]).run Tryd.prog w = .ok (.bool true) w := by kernel_rfl
theorem fi_methodComparable (v : Value) (w : World) : (Go.method 215 72 v "Comparable").run Tryd.prog w = .ok (59, v) w := by kernel_rfl
theorem fi_noIs (v : Value) (xT : TypeId) (w : World) : (Instr.typeAssert (.iface 48 v) xT 84 true).run Tryd.prog w = .ok (.tuple #[.nilIface, .bool false]) w := run_typeAssert_lacksB Tryd.underlying84 (by kernel_rfl) (by kernel_rfl) v xT w
theorem fi_hasUnwrap (v : Value) (xT : TypeId) (w : World) : (Instr.typeAssert (.iface 48 v) xT 79 true).run Tryd.prog w = .ok (.tuple #[.iface 48 v, .bool true]) w := run_typeAssert_hasB Tryd.underlying79 (by kernel_rfl) v xT w
theorem fi_methodUnwrap (v : Value) (w : World) : (Go.method 215 48 v "Unwrap").run Tryd.prog w = .ok (53, v) w := by kernel_rfl

set_option maxRecDepth 10000 in
set_option maxHeartbeats 4000000 in
theorem is_fault (n : Nat) (c : Int) (w : World) (h1 : w.cell? ⟨n, 1, none⟩ = some (.iface 34 (.int .i64 c))) :
    Calls Tryd.prog 20 #[.iface 48 (.pointer (some ⟨n, 0, none⟩)), .iface 34 (.int .i64 c)] w fun e w' => e = .returned (.bool true) ∧ w' = w := by
  have h8 := @run_callFunc_extern Tryd.prog 27 _ Extern.ReflectliteType.typeOf Tryd.func27 (by kernel_rfl) (by kernel_rfl) (by kernel_rfl) (by kernel_rfl)
  have h32 := @run_callFunc_extern Tryd.prog 59 _ (Extern.ReflectliteType.method fun t => do Go.Extern.Rtype.noPackHeld "Comparable" t; pure (.bool (← typeInfo t).comparable)) Tryd.func59 (by kernel_rfl) (by kernel_rfl) (by kernel_rfl) (by kernel_rfl)
  have tT := fi_typeOf
  have cT := fi_comparable
  have mR := fi_methodComparable
  have nW := fi_noIs
  have uW := fi_hasUnwrap
  have mU := fi_methodUnwrap
  have hty := run_eql_iface_types (P := Tryd.prog) 48 34 (.pointer (some ⟨n, 0, none⟩)) (.int .i64 c) Tryd.underlying28 (by decide) w
  go_enter Tryd.func20, Tryd.ntmps20
  go_wp2
  refine wp_loop_rounds 2 ?_
  rw [rounds_succ]
  go_wp2
  rw [rounds_succ]
  go_wp2
  go_ret
  exact ⟨rfl, rfl⟩
theorem fi_size : (Tryd.prog.info? 50).map (·.size) = some 2 := by kernel_rfl
theorem fi_comp : (Tryd.prog.info? 48).map (·.comparable) = some true := by kernel_rfl
@[go_sem] theorem neq_fault (a : Addr) (w : World) : (binOp .neq 28 (.iface 48 (.pointer (some a))) (.iface 48 (.pointer (some a)))).run Tryd.prog w = .ok (.bool false) w := by
  obtain ⟨i, hi, hcmp⟩ := Option.map_eq_some_iff.1 fi_comp
  rcases hj : Tryd.prog.info? 50 with _ | j
  · have := fi_size; rw [hj] at this; cases this
  simp only [binOp]
  simp [Op.equal, Op.maxDepth, run_equalIn_iface_ptr_same w 9998 a Tryd.underlying28 Tryd.underlying48 hi hcmp hj]
/-- What errors.As leaves: the pointer in its cell, and blocks more. -/
theorem as_hit' (e : Addr) (w : World) (hg : w.cell? ⟨0, 0, none⟩ = some (.iface 72 (.agg #[.pointer (some ⟨2, 28, none⟩)]))) :
    Calls Tryd.prog 19 #[.iface 48 (.pointer (some e)), .iface 53 (.pointer (some ⟨w.heap.size, 0, none⟩))] (w.alloc (.cells #[.pointer none] 48)) fun ev w' => ev = .returned (.bool true) ∧ w'.cell? ⟨w.heap.size, 0, none⟩ = some (.pointer (some e)) ∧ Ext w w' := by
  have hlt : 0 < w.heap.size := by
    rcases Nat.eq_zero_or_pos w.heap.size with h0 | h
    · simp [World.cell?, h0] at hg
    · exact h
  refine (as_hit e ⟨w.heap.size, 0, none⟩ (.pointer none) (w.alloc (.cells #[.pointer none] 48)) (by rw [World.cell?_alloc_lt _ _ ⟨0, 0, none⟩ hlt]; exact hg) (by rw [World.cell?_alloc_at _ _ _ _ rfl]; rfl) (by rw [frozen?_alloc_cells]; simp [World.frozen?])).mono ?_
  rintro ev w' ⟨rfl, rfl⟩
  have hz : (w.alloc (.cells #[.pointer none] 48)).heap.size = w.heap.size + 1 := by simp
  refine ⟨rfl, ?_, ?_⟩
  · refine World.cell?_setCell_same _ _ _ (?_ : _ = some (.pointer none))
    rw [World.cell?_alloc_lt _ _ ⟨w.heap.size, 0, none⟩ (by simp; omega), World.cell?_alloc_lt _ _ ⟨w.heap.size, 0, none⟩ (by simp; omega), World.cell?_alloc_lt _ _ ⟨w.heap.size, 0, none⟩ (by simp; omega), World.cell?_alloc_lt _ _ ⟨w.heap.size, 0, none⟩ (by rw [hz]; exact Nat.lt_succ_self _), World.cell?_alloc_at _ _ _ _ rfl]; rfl
  · refine Below.setCell (B := w.heap.size) ?_ (Nat.le_refl _) _
    exact (ext_alloc w _).trans ((ext_alloc _ _).trans ((ext_alloc _ _).trans ((ext_alloc _ _).trans (ext_alloc _ _))))

set_option maxRecDepth 10000 in
set_option maxHeartbeats 4000000 in
theorem isat_any (n : Nat) (p c : Int) (w : World) (hg : w.cell? ⟨0, 0, none⟩ = some (.iface 72 (.agg #[.pointer (some ⟨2, 28, none⟩)])))
    (h0 : w.cell? ⟨n, 0, none⟩ = some (.int .i64 p)) (h1 : w.cell? ⟨n, 1, none⟩ = some (.iface 34 (.int .i64 c))) :
    Calls Tryd.prog 12 #[.iface 48 (.pointer (some ⟨n, 0, none⟩)), .int .i64 p, .int .i64 c] w fun e w' => e = .returned (.bool true) ∧ Ext w w' := by
  have ha := as_hit' ⟨n, 0, none⟩ w hg
  go_enter Tryd.func12, Tryd.ntmps12
  go_wp2_with (first
    | (go_at_call 19; with_reducible refine ha.mono ?_; rintro e w2 ⟨rfl, ht, hx⟩; replace h0 := Ext.cell hx h0; replace h1 := Ext.cell hx h1)
    | (go_at_call 20; with_reducible refine (is_fault n c w2 h1).mono ?_; rintro e w3 ⟨rfl, rfl⟩))
  go_ret
  exact ⟨rfl, hx⟩
end Go.Proofs.YtjbomaihabldjaaDoor
