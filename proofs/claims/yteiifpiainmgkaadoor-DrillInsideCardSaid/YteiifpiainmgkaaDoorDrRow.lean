/-
  The drills' rows: what is common to all of them (the world in which the listed variable reads as laid; from a contract to a row).
-/
import Derived.Test.YteiifpiainmgkaaDoorDrJ
import Derived.Test.YteiifpiainmgkaaDoorEvN
import Derived.Test.YteiifpiainmgkaaDoorRows
import Derived.ProofKit
import Derived.LaidMore
import Derived.OpenShut
import Derived.Stop.Joined
import Derived.SevenTiedAt
namespace Go.Proofs.YteiifpiainmgkaaDoor
open Go Go.Ev Go.ChangeShapes Go.WideShapes Go.RowKit
set_option linter.unusedSimpArgs false
set_option linter.unusedSectionVars false
set_option linter.unusedVariables false

theorem own : ownKnob Tryd.prog.godebug = none := by kernel_rfl
theorem laidOut : laidOutB Tryd.prog = true := by kernel_rfl

noncomputable abbrev laidL : List (String × DataW Unit) := [("swarf/tool.names", Rows.laid_swarf_tool_names)]

theorem door_met (os : Os) (args : Array Value) : laidMetH Tryd.prog laidL ((World.doorLaid Tryd.prog 400 os).forCall (fun _ _ => 0) ⟨#[], args, []⟩).memory :=
  laidMetH_of_parts3 (fuel := 8) (laidMet_of_run' 8 (by kernel_rfl) (by kernel_rfl)) (by kernel_rfl) (by kernel_rfl)

theorem noStand {P : Program} {fn : Func} (h : (fn.params.toList.all fun t => !P.wantsStandIn t) = true) : ∀ (j : Nat) (t : TypeId), fn.params[j]? = some t → P.wantsStandIn t = false := fun j t ht => by
  have hm : t ∈ fn.params.toList := by
    rw [← Array.getElem?_toList] at ht
    exact List.mem_of_getElem? ht
  simpa using List.all_eq_true.1 h t hm

theorem jd_of {W : World} (h : laidMetH Tryd.prog laidL W) : Jd W := by
  rw [MakeChecks.laidMetH_plain _ _ _ (by kernel_rfl)] at h
  exact jd_of_laid h
end Go.Proofs.YteiifpiainmgkaaDoor
