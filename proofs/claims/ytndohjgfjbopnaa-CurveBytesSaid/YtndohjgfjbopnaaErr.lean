/-
  Errors compared.
-/
import Derived.Test.YtndohjgfjbopnaaED
set_option linter.unusedSimpArgs false
set_option linter.unusedVariables false
namespace Go.Proofs.Ytndohjgfjbopnaa
open Go.RowKit Go.Cv
theorem codeinfo : (Try.prog.info? 30).map (·.comparable) = some true := by kernel_rfl
@[go_sem] theorem eql_err (a b : Int) (w : World) : (binOp .eql 25 (.iface 30 (.int .i64 a)) (.iface 30 (.int .i64 b))).run Try.prog w = .ok (.bool (a == b)) w :=
  run_eql_iface_int' w a b Try.underlying25 Try.underlying30 codeinfo
end Go.Proofs.Ytndohjgfjbopnaa
