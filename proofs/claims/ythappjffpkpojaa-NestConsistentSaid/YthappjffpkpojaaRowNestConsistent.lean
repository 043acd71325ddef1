/-
  NestConsistent answers true for all arguments, and changes nothing.
-/
import Derived.Test.YthappjffpkpojaaNeRow
import Derived.Test.YthappjffpkpojaaNeLawH
namespace Go.Proofs.Ythappjffpkpojaa
open Go Go.Ev Go.ChangeShapes Go.WideShapes Go.RowKit
set_option linter.unusedSimpArgs false
set_option linter.unusedSectionVars false
set_option linter.unusedVariables false

set_option maxRecDepth 100000 in
theorem nestConsistent_lifted (os : Os) (started : os.Started) (H : Type) (enc : TypeId × Value → H) :
    ReturnsInHanded {} Try.checked os 6 .any (Rows.nestConsistentSpec.pre6 enc Try.prog Try.f6 Rows.nestConsistentRow.domain false) (Rows.nestConsistentSpec.post enc Try.prog Try.f6 false true false false) := by
  refine returnsInHanded_of_change (C := Try.checked) own started (by kernel_rfl) Try.func6
    (ChangeSpec.witness6 (enc := enc) (C := Try.checked) false ⟨#[], #[.agg #[.int .i64 0, .int .i64 0, .int .i64 0, .slice none 0 0, .slice none 0 0]], []⟩ 12 (by kernel_rfl) (by kernel_rfl) (by kernel_rfl) (by kernel_rfl)) ?_
  intro W base args ds gs before hval hW _ _
  exact law_contract (fn := Try.f6) ntt_ok (by kernel_rfl) laidOut nsound6 (by kernel_rfl) (by kernel_rfl) ⟨4, by kernel_rfl, Try.underlying4⟩ rfl ng6_true (fun ds hd => by
    match ds, hd with
    | [d1], _ => rfl) trivial hval hW

theorem nestConsistent_holds : Rows.NestConsistentSaid :=
  OpenClaim.holds_of_wide 6 Try.f6 rfl rfl rfl rfl rfl rfl rfl ⟨rfl, rfl, rfl, rfl, rfl⟩ rfl rfl rfl rfl rfl (by kernel_rfl) Try.func6 (by kernel_rfl)
    (of_decide_eq_true (by kernel_rfl)) (by unfold Func.isWrapper; first | (rw [if_pos (by decide +kernel)]; kernel_rfl) | (rw [if_neg (by decide +kernel)]; exact ⟨rfl, rfl⟩))
    (fun os started H enc _ => nestConsistent_lifted os started H enc)
#print axioms nestConsistent_holds
end Go.Proofs.Ythappjffpkpojaa
