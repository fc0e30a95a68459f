/-
  What single operations of a region give, by the operands' values alone.
-/
import Derived.Test.YtndohjgfjbopnaaInn
import Derived.Test.YtndohjgfjbopnaaErr
set_option linter.unusedSimpArgs false
set_option linter.unusedVariables false
set_option maxRecDepth 20000
namespace Go.Proofs.Ytndohjgfjbopnaa
open Go.RowKit Go.Cv Go.Cv.Pr Go.Cv.Grp
section
variable {w : World} {o : Oper} {ev : Operand → Value} {R : Value → World → Prop}
theorem give_pick_t (c a b : Operand) (ho : o.op = .pick c a b) (hc : ev c = .bool true) (h : R (ev a) w) : Gives Try.prog R ((execOp ev o).run Try.prog w) := by
  unfold execOp
  simp [ho, hc, go_sem]
  exact h
theorem give_pick_f (c a b : Operand) (ho : o.op = .pick c a b) (hc : ev c = .bool false) (h : R (ev b) w) : Gives Try.prog R ((execOp ev o).run Try.prog w) := by
  unfold execOp
  simp [ho, hc, go_sem]
  exact h
theorem give_nil_eq (a : Operand) (t : TypeId) (ho : o.op = .binOp .eql 25 a (.const .nilIface) t) (ha : ev a = .nilIface) (hb : ev (.const .nilIface) = .nilIface) (h : R (.bool true) w) : Gives Try.prog R ((execOp ev o).run Try.prog w) := by
  unfold execOp
  simp [ho, ha, hb, eqGuard, go_sem]
  exact h
theorem give_nil_ne (a : Operand) (t : TypeId) (ho : o.op = .binOp .neq 25 a (.const .nilIface) t) (ha : ev a = .nilIface) (hb : ev (.const .nilIface) = .nilIface) (h : R (.bool false) w) : Gives Try.prog R ((execOp ev o).run Try.prog w) := by
  unfold execOp
  simp [ho, ha, hb, eqGuard, go_sem]
  exact h
theorem give_not (a : Operand) (x : Bool) (ho : o.op = .unOp .not 4 a) (ha : ev a = .bool x) (h : R (.bool !x) w) : Gives Try.prog R ((execOp ev o).run Try.prog w) := by
  unfold execOp
  simp [ho, ha, go_sem]
  exact h
theorem give_eqP (a b : Operand) (t : TypeId) (f g k l : Nat → UInt8) (ho : o.op = .binOp .eql 43 a b t) (ha : ev a = .agg (pc f g)) (hb : ev b = .agg (pc k l)) (h : R (.bool (beqb f k && beqb g l)) w) : Gives Try.prog R ((execOp ev o).run Try.prog w) := by
  unfold execOp
  simp only [ho, ha, hb]
  go_simp
  exact h
theorem give_neP (a b : Operand) (t : TypeId) (f g k l : Nat → UInt8) (ho : o.op = .binOp .neq 43 a b t) (ha : ev a = .agg (pc f g)) (hb : ev b = .agg (pc k l)) (h : R (.bool (!(beqb f k && beqb g l))) w) : Gives Try.prog R ((execOp ev o).run Try.prog w) := by
  unfold execOp
  simp only [ho, ha, hb]
  go_simp
  rw [← Bool.not_and]
  exact h
theorem give_ext (a : Operand) (k : Nat) (cs : Array Value) (ho : o.op = .extract a k) (ha : ev a = .tuple cs) (u : Value) (hu : cs[k]? = some u) (h : R u w) : Gives Try.prog R ((execOp ev o).run Try.prog w) := by
  unfold execOp
  simp [ho, ha, hu, go_sem, Instr.extract]
  exact h
theorem give_errEq (a b : Operand) (t : TypeId) (ho : o.op = .binOp .eql 25 a b t) (ha : ev a = errPoint) (hb : ev b = errPoint) (h : R (.bool true) w) : Gives Try.prog R ((execOp ev o).run Try.prog w) := by
  unfold errPoint at ha hb
  unfold execOp
  simp only [ho, ha, hb]
  go_simp
  exact h
theorem give_errNe (a b : Operand) (t : TypeId) (ho : o.op = .binOp .neq 25 a b t) (ha : ev a = errPoint) (hb : ev b = errPoint) (h : R (.bool false) w) : Gives Try.prog R ((execOp ev o).run Try.prog w) := by
  unfold errPoint at ha hb
  unfold execOp
  simp only [ho, ha, hb]
  go_simp
  exact h
theorem give_err_nil_eq (a : Operand) (t : TypeId) (ho : o.op = .binOp .eql 25 a (.const .nilIface) t) (ha : ev a = errPoint) (hb : ev (.const .nilIface) = .nilIface) (h : R (.bool false) w) : Gives Try.prog R ((execOp ev o).run Try.prog w) := by
  unfold errPoint at ha
  unfold execOp
  simp only [ho, ha, hb]
  go_simp
  exact h
theorem give_err_nil_ne (a : Operand) (t : TypeId) (ho : o.op = .binOp .neq 25 a (.const .nilIface) t) (ha : ev a = errPoint) (hb : ev (.const .nilIface) = .nilIface) (h : R (.bool true) w) : Gives Try.prog R ((execOp ev o).run Try.prog w) := by
  unfold errPoint at ha
  unfold execOp
  simp only [ho, ha, hb]
  go_simp
  exact h
theorem give_bne (a b : Operand) (t : TypeId) {x y : Bool} (ho : o.op = .binOp .neq 4 a b t) (ha : ev a = .bool x) (hb : ev b = .bool y) (h : R (.bool (x != y)) w) : Gives Try.prog R ((execOp ev o).run Try.prog w) := by
  unfold execOp
  simp only [ho, ha, hb]
  go_simp
  first | exact h | (cases x <;> cases y <;> exact h)
end
end Go.Proofs.Ytndohjgfjbopnaa
