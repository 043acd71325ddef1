/-
  PRINTED by the generator of this repo (wip/gen/gen.py): functions of the program as plain Lean functions, with an equation for each part and the proof that the Go calls do what they tell.
-/
import Derived.Test.YteiifpiainmgkaaDoorGenD
import Derived.Test.YteiifpiainmgkaaDoorProg
import Derived.KernelRfl
namespace Go.Ev
open Go Go.Proofs
set_option linter.unusedVariables false
/-! slices.Clone[[]swarf/api.Tool,swarf/api.Tool] -/
noncomputable def dg16.G : List Con := []
def dg16.cut : Cuts := [([1], [0], [])]
def dg16.keep : List Nat := [0, 2, 4]
@[reducible] def dg16.A : List ATy := [.v (.sl dY32)]
@[reducible] def dg16.R : List Ty := [(.sl dY32)]
noncomputable def dg16.N (N : Nat) (x : DenA dg16.A) : Option (DenR dg16.R) := fnR dg16.G dtt dg16.cut dg16.keep [] (fun _ _ => N) Tryd.f16 dg16.R true (encA dg16.A x)
noncomputable def dg16.S0 (N : Nat) (x0 : (List (Ty.den dY32))) : Option (DenR dg16.R) := fromSeq dg16.G dtt dg16.cut dg16.keep (fun _ _ => N) (codeOf Tryd.f16) (retK dtt Tryd.f16 dg16.R true) [1] [] ⟨[(0, .val ⟨(.sl dY32), x0⟩ false)], []⟩
theorem dg16.eq (N : Nat) (a0 : (List (Ty.den dY32))) : dg16.N N (a0, ()) =
  bif (List.isEmpty a0) then
    both (
      some []) (
      dg16.S0 N a0)
  else
  dg16.S0 N a0 := by kernel_rfl
theorem dg16.S0_eqN (N : Nat)  (x0 : (List (Ty.den dY32))) : dg16.S0 (N + 1)  x0 =
  bif (decide (List.length ([] : (List (Ty.den dY32))) + List.length x0 ≤ most)) then
    some (([] : (List (Ty.den dY32))) ++ x0)
  else
  none := by kernel_rfl
theorem dg16.S0_eq  (x0 : (List (Ty.den dY32))) : dg16.S0 BIG  x0 =
  bif (decide (List.length ([] : (List (Ty.den dY32))) + List.length x0 ≤ most)) then
    some (([] : (List (Ty.den dY32))) ++ x0)
  else
  none := dg16.S0_eqN 18446744073709551615  x0
noncomputable def dg16 (x : DenA dg16.A) : Option (DenR dg16.R) := dg16.N BIG x
noncomputable def dcon16 : Con := ⟨16, dg16.A, dg16.R, true, dg16, none⟩
theorem dsound16 : SoundC Tryd.prog Jd dcon16 :=
  sound_of (Γ := dg16.G) (tt := dtt) (cut := dg16.cut) (keep := dg16.keep) (boxes := []) dcon16 Tryd.f16 (fu := fun _ _ _ => BIG) dtt_ok Jd_keeps (noneS) dmixed (by kernel_rfl) (by kernel_rfl) fun x r h => Eq.trans (b := Con.fn dcon16 x) (by kernel_rfl) h
end Go.Ev
