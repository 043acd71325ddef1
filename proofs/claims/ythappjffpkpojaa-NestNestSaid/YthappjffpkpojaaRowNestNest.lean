/-
  NestNest answers true for all arguments, and changes nothing.
-/
import Derived.Test.YthappjffpkpojaaNeRow
import Derived.Test.YthappjffpkpojaaNeLawG
namespace Go.Proofs.Ythappjffpkpojaa
open Go Go.Ev Go.ChangeShapes Go.WideShapes Go.RowKit
set_option linter.unusedSimpArgs false
set_option linter.unusedSectionVars false
set_option linter.unusedVariables false

set_option maxRecDepth 100000 in
theorem nestNest_lifted (os : Os) (started : os.Started) (H : Type) (enc : TypeId × Value → H) :
    ReturnsInHanded {} Try.checked os 3 .any (Rows.nestNestSpec.pre6 enc Try.prog Try.f3 Rows.nestNestRow.domain false) (Rows.nestNestSpec.post enc Try.prog Try.f3 false true false false) := by
  refine returnsInHanded_of_change (C := Try.checked) own started (by kernel_rfl) Try.func3
    (ChangeSpec.witness6 (enc := enc) (C := Try.checked) false ⟨#[], #[.agg #[.int .i64 0, .int .i64 0, .int .i64 0, .slice none 0 0, .slice none 0 0]], []⟩ 12 (by kernel_rfl) (by kernel_rfl) (by kernel_rfl) (by kernel_rfl)) ?_
  intro W base args ds gs before hval hW _ _
  exact law_contract (fn := Try.f3) ntt_ok (by kernel_rfl) laidOut nsound3 (by kernel_rfl) (by kernel_rfl) ⟨4, by kernel_rfl, Try.underlying4⟩ rfl ng3_true (fun ds hd => by
    match ds, hd with
    | [d1], _ => rfl) trivial hval hW

theorem nestNest_holds : Rows.NestNestSaid :=
  OpenClaim.holds_of_wide 3 Try.f3 rfl rfl rfl rfl rfl rfl rfl ⟨rfl, rfl, rfl, rfl, rfl⟩ rfl rfl rfl rfl rfl (by kernel_rfl) Try.func3 (by kernel_rfl)
    (of_decide_eq_true (by kernel_rfl)) (by unfold Func.isWrapper; first | (rw [if_pos (by decide +kernel)]; kernel_rfl) | (rw [if_neg (by decide +kernel)]; exact ⟨rfl, rfl⟩))
    (fun os started H enc _ => nestNest_lifted os started H enc)
#print axioms nestNest_holds
end Go.Proofs.Ythappjffpkpojaa
