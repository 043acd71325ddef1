/-
  The nest rows: what is common to all of them.
-/
import Derived.Test.YthappjffpkpojaaEvN
import Derived.Test.YthappjffpkpojaaRows
import Derived.ProofKit
namespace Go.Proofs.Ythappjffpkpojaa
open Go Go.Ev Go.ChangeShapes Go.WideShapes Go.RowKit
set_option linter.unusedSimpArgs false
set_option linter.unusedSectionVars false
set_option linter.unusedVariables false

theorem own : ownKnob Try.prog.godebug = none := by kernel_rfl
theorem laidOut : laidOutB Try.prog = true := by kernel_rfl
end Go.Proofs.Ythappjffpkpojaa
