/-
  DrillInside answers true for all arguments, and changes nothing.
-/
import Derived.Test.YteiifpiainmgkaaDoorDrRow
import Derived.Test.YteiifpiainmgkaaDoorLawY
import Derived.Test.YteiifpiainmgkaaDoorCards
import Derived.Test.YteiifpiainmgkaaDoorTie
import Derived.SevenTiedAt
namespace Go.Proofs.YteiifpiainmgkaaDoor
open Go Go.Ev Go.ChangeShapes Go.WideShapes Go.RowKit
set_option linter.unusedSimpArgs false
set_option linter.unusedSectionVars false
set_option linter.unusedVariables false

set_option maxRecDepth 100000 in
theorem drillInside_lifted (os : Os) (started : os.Started) (H : Type) (enc : TypeId × Value → H) :
    ReturnsInHanded {} Tryd.checked os 7 .any (fun w args => (Rows.drillInsideSpec.pre enc Tryd.prog Tryd.f7 [] false w args ∧ laidMetH Tryd.prog laidL w) ∧ sizedMet enc Tryd.prog Tryd.f7 (OpenSpec.ofChange Rows.drillInsideSpec) false w args)
      (Rows.drillInsideSpec.post enc Tryd.prog Tryd.f7 false true false false) := by
  refine returnsInHanded_of_change_and (C := Tryd.checked) (X := fun w _ => laidMetH Tryd.prog laidL w) (fun _ _ _ hh h => h.of_heap hh) own started (by kernel_rfl) Tryd.func7
    (ChangeSpec.witness_shaped (enc := enc) (C := Tryd.checked) (os := os) (X := fun w _ => laidMetH Tryd.prog laidL w) false (World.doorLaid Tryd.prog 400 os) #[.agg #[.int .i64 0, .int .i64 0], .agg #[.int .i64 1, .int .i64 1, .int .i64 1], .agg #[.int .i64 1, .int .i64 1, .int .i64 1, .int .i64 1, .int .i64 1, .int .i64 1, .int .i64 1, .int .i64 1]] 12 rfl (World.shaped_of_RefB (by kernel_rfl) (by kernel_rfl)) (by kernel_rfl) (by kernel_rfl) (by kernel_rfl) (door_met os _)) ?_
  intro W base args ds gs before hval hW _ _ hL _
  exact law_contract (fn := Tryd.f7) dtt_ok (by kernel_rfl) laidOut dsound7 (by kernel_rfl) (by kernel_rfl) ⟨4, by kernel_rfl, Tryd.underlying4⟩ rfl dg7_true (fun ds hd => by
    match ds, hd with
    | [d1, d2, d3], _ => rfl) (jd_of hL) hval hW

theorem drillInside_row : Rows.DrillInsideSaid :=
  OpenClaim.holds_of_wide 7 Tryd.f7 rfl rfl rfl rfl rfl rfl rfl ⟨rfl, rfl, rfl, rfl, rfl⟩ rfl rfl rfl rfl rfl (by kernel_rfl) Tryd.func7 (by kernel_rfl)
    (of_decide_eq_true (by kernel_rfl)) (by unfold Func.isWrapper; first | (rw [if_pos (by decide +kernel)]; kernel_rfl) | (rw [if_neg (by decide +kernel)]; exact ⟨rfl, rfl⟩))
    (fun os started H enc _ => drillInside_lifted os started H enc)

theorem drillInside_holds : Rows.DrillInsideCardSaid :=
  Claim7.holds_tied_plain_at .later [] [.mapped] true (true, "e69507602ef26b0f4ec529b7226bb2365d3ef8d0036b87d539921c8d6f05c440") false
    drillInside_row (fun _ h => by cases h) (by kernel_rfl) (fun _ h => by cases h) drillInside_row_tie rfl ⟨rfl, rfl⟩ (by kernel_rfl) rfl
    (fun f fn hf hfn => by
      obtain rfl : f = 7 := Option.some.inj ((show Tryd.prog.funcNamed "swarf/swarflaw35.DrillInside" = some 7 by kernel_rfl).symm.trans hf) |>.symm
      obtain rfl : fn = Tryd.f7 := (Option.some.inj (Tryd.func7.symm.trans hfn)).symm
      exact ⟨by kernel_rfl, noStand (by kernel_rfl)⟩)
    (by kernel_rfl)
#print axioms drillInside_holds
end Go.Proofs.YteiifpiainmgkaaDoor
