/-
  PRINTED by the generator of this repo (wip/gen/gen.py): functions of the program as plain Lean functions, with an equation for each part and the proof that the Go calls do what they tell.
-/
import Derived.Test.YteiifpiainmgkaaDoorGenE
import Derived.Test.YteiifpiainmgkaaDoorProg
import Derived.KernelRfl
namespace Go.Ev
open Go Go.Proofs
set_option linter.unusedVariables false
/-! swarf/drill.Match -/
noncomputable def dg15.G : List Con := [dcon26]
def dg15.cut : Cuts := [([0, 1, 0, 1, 1, 1], [0, 1, 2, 9, 18, 19, 20], []), ([1, 1, 0, 0, 1, 1, 0, 0, 1, 0, 1, 1, 1], [0, 1, 2, 9, 10, 11, 18, 19, 20], [11]), ([1, 1, 1], [9], [])]
def dg15.keep : List Nat := [0, 1, 2, 6, 7, 8, 9, 10, 11, 17, 18, 19, 20, 21, 28, 37, 55, 59]
@[reducible] def dg15.A : List ATy := [.v (.sl dY32), .v (.int .i64), .v (.int .i64)]
@[reducible] def dg15.R : List Ty := [(.int .i64), .bool, (.int .i64)]
noncomputable def dg15.N (N : Nat) (x : DenA dg15.A) : Option (DenR dg15.R) := fnR dg15.G dtt dg15.cut dg15.keep [11] (fun _ _ => N) Tryd.f15 dg15.R false (encA dg15.A x)
noncomputable def dg15.L0 (N : Nat) (n : Nat) (x0 : (List (Ty.den dY32))) (x1 : Int) (x2 : Int) (x9 : Int) (x18 : (List (Ty.den dY32))) (x19 : Int) (x20 : Int) : Option (DenR dg15.R) := fromLoop dg15.G dtt dg15.cut dg15.keep (fun _ _ => N) (codeOf Tryd.f15) (retK dtt Tryd.f15 dg15.R false) [1, 1, 1, 0, 1, 0] [] n ⟨[(0, .val ⟨(.sl dY32), x0⟩ false), (1, .val ⟨(.int .i64), x1⟩ false), (2, .val ⟨(.int .i64), x2⟩ false), (9, .val ⟨(.int .i64), x9⟩ false), (18, .val ⟨(.sl dY32), x18⟩ false), (19, .val ⟨(.int .i64), x19⟩ false), (20, .val ⟨(.int .i64), x20⟩ false)], []⟩
noncomputable def dg15.S0 (N : Nat) (n0 : Nat) (x0 : (List (Ty.den dY32))) (x1 : Int) (x2 : Int) (x9 : Int) (x10 : Int) (x18 : (List (Ty.den dY32))) (x19 : Int) (x20 : Int) (b11 : (Ty.den dY32)) : Option (DenR dg15.R) := fromSeq dg15.G dtt dg15.cut dg15.keep (fun _ _ => N) (codeOf Tryd.f15) (retK dtt Tryd.f15 dg15.R false) [1, 1, 1, 0, 1, 0, 0, 1, 1, 0, 0, 1, 1] [n0] ⟨[(0, .val ⟨(.sl dY32), x0⟩ false), (1, .val ⟨(.int .i64), x1⟩ false), (2, .val ⟨(.int .i64), x2⟩ false), (9, .val ⟨(.int .i64), x9⟩ false), (10, .val ⟨(.int .i64), x10⟩ false), (11, .ref 11 0), (18, .val ⟨(.sl dY32), x18⟩ false), (19, .val ⟨(.int .i64), x19⟩ false), (20, .val ⟨(.int .i64), x20⟩ false)], [(11, ⟨dY32, b11, []⟩)]⟩
noncomputable def dg15.S1 (N : Nat) (x9 : Int) : Option (DenR dg15.R) := fromSeq dg15.G dtt dg15.cut dg15.keep (fun _ _ => N) (codeOf Tryd.f15) (retK dtt Tryd.f15 dg15.R false) [1, 1, 1] [] ⟨[(9, .val ⟨(.int .i64), x9⟩ false)], []⟩
theorem dg15.eq (N : Nat) (a0 : (List (Ty.den dY32))) (a1 : Int) (a2 : Int) : dg15.N N (a0, a1, a2, ()) =
  bif (decide (a1 < (1 : Int))) then
    some ((0 : Int), false, (1 : Int))
  else
  bif (decide (a2 < (1 : Int))) then
    some ((0 : Int), false, (1 : Int))
  else
  dg15.L0 N N a0 a1 a2 (-1 : Int) a0 ((List.length a0 : Nat) : Int) (0 : Int) := by kernel_rfl
theorem dg15.L0_eq (N : Nat)  (n : Nat) (x0 : (List (Ty.den dY32))) (x1 : Int) (x2 : Int) (x9 : Int) (x18 : (List (Ty.den dY32))) (x19 : Int) (x20 : Int) : dg15.L0 N  (n + 1) x0 x1 x2 x9 x18 x19 x20 =
  bif (decide (x20 < x19)) then
    Option.bind (idx x18 x20) fun r1 =>
    bif (decide (r1.2.2.2.1 < x2)) then
      dg15.L0 N n x0 x1 x2 x9 x18 x19 (IntKind.i64.wrap (x20 + (1 : Int)))
    else
    bif (r1.2.1 == (2 : Int)) then
      bif (r1.2.2.1 == x1) then
        some (x20, true, (0 : Int))
      else
      dg15.S0 N n x0 x1 x2 x9 x20 x18 x19 x20 r1
    else
    dg15.S0 N n x0 x1 x2 x9 x20 x18 x19 x20 r1
  else
  dg15.S1 N x9 := by kernel_rfl
theorem dg15.L0_zero (N : Nat) (x0 : (List (Ty.den dY32))) (x1 : Int) (x2 : Int) (x9 : Int) (x18 : (List (Ty.den dY32))) (x19 : Int) (x20 : Int) : dg15.L0 N  0 x0 x1 x2 x9 x18 x19 x20 = none := by kernel_rfl
theorem dg15.S0_eqN (N : Nat) (n0 : Nat) (x0 : (List (Ty.den dY32))) (x1 : Int) (x2 : Int) (x9 : Int) (x10 : Int) (x18 : (List (Ty.den dY32))) (x19 : Int) (x20 : Int) (b11 : (Ty.den dY32)) : dg15.S0 (N + 1) n0 x0 x1 x2 x9 x10 x18 x19 x20 b11 =
  Option.bind (dg26 (b11, x1, ())) fun y2 =>
  bif y2 then
    bif (decide (x9 < (0 : Int))) then
      dg15.L0 (N + 1) n0 x0 x1 x2 x10 x18 x19 (IntKind.i64.wrap (x20 + (1 : Int)))
    else
    Option.bind (idx x0 x9) fun r3 =>
    bif (decide (b11.2.2.1 > r3.2.2.1)) then
      dg15.L0 (N + 1) n0 x0 x1 x2 x10 x18 x19 (IntKind.i64.wrap (x20 + (1 : Int)))
    else
    dg15.L0 (N + 1) n0 x0 x1 x2 x9 x18 x19 (IntKind.i64.wrap (x20 + (1 : Int)))
  else
  dg15.L0 (N + 1) n0 x0 x1 x2 x9 x18 x19 (IntKind.i64.wrap (x20 + (1 : Int))) := by kernel_rfl
theorem dg15.S0_eq (n0 : Nat) (x0 : (List (Ty.den dY32))) (x1 : Int) (x2 : Int) (x9 : Int) (x10 : Int) (x18 : (List (Ty.den dY32))) (x19 : Int) (x20 : Int) (b11 : (Ty.den dY32)) : dg15.S0 BIG n0 x0 x1 x2 x9 x10 x18 x19 x20 b11 =
  Option.bind (dg26 (b11, x1, ())) fun y2 =>
  bif y2 then
    bif (decide (x9 < (0 : Int))) then
      dg15.L0 BIG n0 x0 x1 x2 x10 x18 x19 (IntKind.i64.wrap (x20 + (1 : Int)))
    else
    Option.bind (idx x0 x9) fun r3 =>
    bif (decide (b11.2.2.1 > r3.2.2.1)) then
      dg15.L0 BIG n0 x0 x1 x2 x10 x18 x19 (IntKind.i64.wrap (x20 + (1 : Int)))
    else
    dg15.L0 BIG n0 x0 x1 x2 x9 x18 x19 (IntKind.i64.wrap (x20 + (1 : Int)))
  else
  dg15.L0 BIG n0 x0 x1 x2 x9 x18 x19 (IntKind.i64.wrap (x20 + (1 : Int))) := dg15.S0_eqN 18446744073709551615 n0 x0 x1 x2 x9 x10 x18 x19 x20 b11
theorem dg15.S1_eqN (N : Nat)  (x9 : Int) : dg15.S1 (N + 1)  x9 =
  bif (decide (x9 < (0 : Int))) then
    some ((0 : Int), false, (16 : Int))
  else
  some (x9, false, (0 : Int)) := by kernel_rfl
theorem dg15.S1_eq  (x9 : Int) : dg15.S1 BIG  x9 =
  bif (decide (x9 < (0 : Int))) then
    some ((0 : Int), false, (16 : Int))
  else
  some (x9, false, (0 : Int)) := dg15.S1_eqN 18446744073709551615  x9
noncomputable def dg15 (x : DenA dg15.A) : Option (DenR dg15.R) := dg15.N BIG x
noncomputable def dcon15 : Con := ⟨15, dg15.A, dg15.R, false, dg15, none⟩
theorem dsound15 : SoundC Tryd.prog Jd dcon15 :=
  sound_of (Γ := dg15.G) (tt := dtt) (cut := dg15.cut) (keep := dg15.keep) (boxes := [11]) dcon15 Tryd.f15 (fu := fun _ _ _ => BIG) dtt_ok Jd_keeps ((consS dsound26 noneS)) dmixed (by kernel_rfl) (by kernel_rfl) fun x r h => Eq.trans (b := Con.fn dcon15 x) (by kernel_rfl) h
end Go.Ev
