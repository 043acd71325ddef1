/-
  PRINTED by the generator of this repo (wip/gen/gen.py): functions of the program as plain Lean functions, with an equation for each part and the proof that the Go calls do what they tell.
-/
import Derived.Test.YteiifpiainmgkaaDoorGenC
import Derived.Test.YteiifpiainmgkaaDoorProg
import Derived.KernelRfl
namespace Go.Ev
open Go Go.Proofs
set_option linter.unusedVariables false
/-! swarf/swarfref35.Same -/
noncomputable def dg14.G : List Con := []
def dg14.cut : Cuts := [([0, 1, 0, 1, 1], [0, 1, 5], [])]
def dg14.keep : List Nat := [0, 1, 4, 5, 10, 14, 25]
@[reducible] def dg14.A : List ATy := [.v (.sl dY47), .v (.sl dY47)]
@[reducible] def dg14.R : List Ty := [.bool]
noncomputable def dg14.N (N : Nat) (x : DenA dg14.A) : Option (DenR dg14.R) := fnR dg14.G dtt dg14.cut dg14.keep [] (fun _ _ => N) Tryd.f14 dg14.R false (encA dg14.A x)
noncomputable def dg14.L0 (N : Nat) (n : Nat) (x0 : (List (Ty.den dY47))) (x1 : (List (Ty.den dY47))) (x5 : Int) : Option (DenR dg14.R) := fromLoop dg14.G dtt dg14.cut dg14.keep (fun _ _ => N) (codeOf Tryd.f14) (retK dtt Tryd.f14 dg14.R false) [1, 1, 0, 1, 0] [] n ⟨[(0, .val ⟨(.sl dY47), x0⟩ false), (1, .val ⟨(.sl dY47), x1⟩ false), (5, .val ⟨(.int .i64), x5⟩ false)], []⟩
theorem dg14.eq (N : Nat) (a0 : (List (Ty.den dY47))) (a1 : (List (Ty.den dY47))) : dg14.N N (a0, a1, ()) =
  bif (((List.length a0 : Nat) : Int) != ((List.length a1 : Nat) : Int)) then
    some false
  else
  dg14.L0 N N a0 a1 (0 : Int) := by kernel_rfl
theorem dg14.L0_eq (N : Nat)  (n : Nat) (x0 : (List (Ty.den dY47))) (x1 : (List (Ty.den dY47))) (x5 : Int) : dg14.L0 N  (n + 1) x0 x1 x5 =
  bif (decide (x5 < ((List.length x0 : Nat) : Int))) then
    Option.bind (idx x0 x5) fun r1 =>
    Option.bind (idx x1 x5) fun r2 =>
    bif (!(eqD dY47 r1 r2)) then
      some false
    else
    dg14.L0 N n x0 x1 (IntKind.i64.wrap (x5 + (1 : Int)))
  else
  some true := by kernel_rfl
theorem dg14.L0_zero (N : Nat) (x0 : (List (Ty.den dY47))) (x1 : (List (Ty.den dY47))) (x5 : Int) : dg14.L0 N  0 x0 x1 x5 = none := by kernel_rfl
noncomputable def dg14 (x : DenA dg14.A) : Option (DenR dg14.R) := dg14.N BIG x
noncomputable def dcon14 : Con := ⟨14, dg14.A, dg14.R, false, dg14, none⟩
theorem dsound14 : SoundC Tryd.prog Jd dcon14 :=
  sound_of (Γ := dg14.G) (tt := dtt) (cut := dg14.cut) (keep := dg14.keep) (boxes := []) dcon14 Tryd.f14 (fu := fun _ _ _ => BIG) dtt_ok Jd_keeps (noneS) dmixed (by kernel_rfl) (by kernel_rfl) fun x r h => Eq.trans (b := Con.fn dcon14 x) (by kernel_rfl) h
/-! swarf/swarflaw35.DrillBore -/
noncomputable def dg4.G : List Con := [dcon8, dcon12, dcon13, dcon14]
def dg4.cut : Cuts := [([1], [3, 4, 5], [3, 4, 5])]
def dg4.keep : List Nat := [3, 4, 5, 6, 7, 8, 9, 10, 22]
@[reducible] def dg4.A : List ATy := [.v dY29, .v dY31, .v dY32]
@[reducible] def dg4.R : List Ty := [.bool]
noncomputable def dg4.N (N : Nat) (x : DenA dg4.A) : Option (DenR dg4.R) := fnR dg4.G dtt dg4.cut dg4.keep [3, 4, 5] (fun _ _ => N) Tryd.f4 dg4.R false (encA dg4.A x)
noncomputable def dg4.S0 (N : Nat) (b3 : (Ty.den dY29)) (b4 : (Ty.den dY31)) (b5 : (Ty.den dY32)) : Option (DenR dg4.R) := fromSeq dg4.G dtt dg4.cut dg4.keep (fun _ _ => N) (codeOf Tryd.f4) (retK dtt Tryd.f4 dg4.R false) [1] [] ⟨[(3, .ref 3 0), (4, .ref 4 0), (5, .ref 5 0)], [(3, ⟨dY29, b3, []⟩), (4, ⟨dY31, b4, []⟩), (5, ⟨dY32, b5, []⟩)]⟩
theorem dg4.eq (N : Nat) (a0 : (Ty.den dY29)) (a1 : (Ty.den dY31)) (a2 : (Ty.den dY32)) : dg4.N N (a0, a1, a2, ()) =
  Option.bind (dg8 ()) fun y1 =>
  bif (!y1) then
    Option.bind (dg8 ()) fun y2 =>
    some y2
  else
  bif (decide (a1.2.2.1 > (200000 : Int))) then
    bif (decide (a2.2.2.2.2.2.1 < (1000 : Int))) then
      Option.bind (dg8 ()) fun y3 =>
      some y3
    else
    dg4.S0 N a0 a1 a2
  else
  dg4.S0 N a0 a1 a2 := by kernel_rfl
theorem dg4.S0_eqN (N : Nat)  (b3 : (Ty.den dY29)) (b4 : (Ty.den dY31)) (b5 : (Ty.den dY32)) : dg4.S0 (N + 1)  b3 b4 b5 =
  Option.bind (dg12 (b3, b4.1, b4.2.1, b4.2.2.1, b5, ())) fun y4 =>
  Option.bind (dg13 (b3, b4.1, b4.2.1, b4.2.2.1, b5, ())) fun y5 =>
  bif (y4.2 == y5.2) then
    Option.bind (dg14 (y4.1, y5.1, ())) fun y6 =>
    some y6
  else
  some false := by kernel_rfl
theorem dg4.S0_eq  (b3 : (Ty.den dY29)) (b4 : (Ty.den dY31)) (b5 : (Ty.den dY32)) : dg4.S0 BIG  b3 b4 b5 =
  Option.bind (dg12 (b3, b4.1, b4.2.1, b4.2.2.1, b5, ())) fun y4 =>
  Option.bind (dg13 (b3, b4.1, b4.2.1, b4.2.2.1, b5, ())) fun y5 =>
  bif (y4.2 == y5.2) then
    Option.bind (dg14 (y4.1, y5.1, ())) fun y6 =>
    some y6
  else
  some false := dg4.S0_eqN 18446744073709551615  b3 b4 b5
noncomputable def dg4 (x : DenA dg4.A) : Option (DenR dg4.R) := dg4.N BIG x
noncomputable def dcon4 : Con := ⟨4, dg4.A, dg4.R, false, dg4, none⟩
theorem dsound4 : SoundC Tryd.prog Jd dcon4 :=
  sound_of (Γ := dg4.G) (tt := dtt) (cut := dg4.cut) (keep := dg4.keep) (boxes := [3, 4, 5]) dcon4 Tryd.f4 (fu := fun _ _ _ => BIG) dtt_ok Jd_keeps ((consS dsound8 (consS dsound12 (consS dsound13 (consS dsound14 noneS))))) dmixed (by kernel_rfl) (by kernel_rfl) fun x r h => Eq.trans (b := Con.fn dcon4 x) (by kernel_rfl) h
end Go.Ev
