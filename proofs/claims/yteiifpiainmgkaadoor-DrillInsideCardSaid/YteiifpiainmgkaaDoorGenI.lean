/-
  PRINTED by the generator of this repo (wip/gen/gen.py): functions of the program as plain Lean functions, with an equation for each part and the proof that the Go calls do what they tell.
-/
import Derived.Test.YteiifpiainmgkaaDoorGenH
import Derived.Test.YteiifpiainmgkaaDoorProg
import Derived.KernelRfl
namespace Go.Ev
open Go Go.Proofs
set_option linter.unusedVariables false
/-! swarf/swarfref35.Peck -/
noncomputable def dg20.G : List Con := [dcon18, dcon30, dcon10]
def dg20.cut : Cuts := [([0, 1, 0, 1, 1, 1, 1, 1, 1, 1], [1, 5, 9, 12, 14, 15], [5, 9]), ([1, 1, 1, 1, 1, 1, 1], [14], [])]
def dg20.keep : List Nat := [1, 2, 3, 5, 9, 10, 11, 12, 13, 14, 15, 35, 39, 55, 63, 68]
@[reducible] def dg20.A : List ATy := [.v dY29, .v (.int .i64), .v (.int .i64), .v (.int .i64), .v dY32]
@[reducible] def dg20.R : List Ty := [(.sl dY47), (.int .i64)]
noncomputable def dg20.N (N : Nat) (x : DenA dg20.A) : Option (DenR dg20.R) := fnR dg20.G dtt dg20.cut dg20.keep [5, 9] (fun _ _ => N) Tryd.f20 dg20.R false (encA dg20.A x)
noncomputable def dg20.L0 (N : Nat) (n : Nat) (x1 : Int) (x12 : (List Int)) (x14 : (List (Ty.den dY47))) (x15 : Int) (b5 : (Ty.den dY29)) (b9 : (Ty.den dY32)) : Option (DenR dg20.R) := fromLoop dg20.G dtt dg20.cut dg20.keep (fun _ _ => N) (codeOf Tryd.f20) (retK dtt Tryd.f20 dg20.R false) [1, 1, 1, 1, 1, 1, 1, 0, 1, 0] [] n ⟨[(1, .val ⟨(.int .i64), x1⟩ false), (5, .ref 5 0), (9, .ref 9 0), (12, .val ⟨(.sl (.int .i64)), x12⟩ false), (14, .val ⟨(.sl dY47), x14⟩ true), (15, .val ⟨(.int .i64), x15⟩ false)], [(5, ⟨dY29, b5, []⟩), (9, ⟨dY32, b9, []⟩)]⟩
noncomputable def dg20.S0 (N : Nat) (x14 : (List (Ty.den dY47))) : Option (DenR dg20.R) := fromSeq dg20.G dtt dg20.cut dg20.keep (fun _ _ => N) (codeOf Tryd.f20) (retK dtt Tryd.f20 dg20.R false) [1, 1, 1, 1, 1, 1, 1] [] ⟨[(14, .val ⟨(.sl dY47), x14⟩ true)], []⟩
theorem dg20.eq (N : Nat) (a0 : (Ty.den dY29)) (a1 : Int) (a2 : Int) (a3 : Int) (a4 : (Ty.den dY32)) : dg20.N N (a0, a1, a2, a3, a4, ()) =
  Option.bind (dg18 (a4, ())) fun y1 =>
  bif (!y1) then
    some ([], (1 : Int))
  else
  bif (a4.2.1 != (2 : Int)) then
    some ([], (1 : Int))
  else
  bif (decide (a1 < (0 : Int))) then
    some ([], (1 : Int))
  else
  bif (decide (a2 ≤ (0 : Int))) then
    some ([], (1 : Int))
  else
  bif (decide (a3 ≤ (0 : Int))) then
    some ([], (1 : Int))
  else
  bif (decide (a4.2.2.2.1 < a2)) then
    some ([], (16 : Int))
  else
  Option.bind (dg30 (a0.1, ())) fun y2 =>
  bif y2 then
    some ([], (11 : Int))
  else
  Option.bind (dg30 (a0.2.1, ())) fun y3 =>
  bif y3 then
    some ([], (11 : Int))
  else
  Option.bind (dg30 (a1, ())) fun y4 =>
  bif y4 then
    some ([], (11 : Int))
  else
  Option.bind (dg30 (a2, ())) fun y5 =>
  bif y5 then
    some ([], (11 : Int))
  else
  Option.bind (dg10 (a2, a3, ())) fun y6 =>
  bif (y6.2 != (0 : Int)) then
    some ([], y6.2)
  else
  dg20.L0 N N a1 y6.1 [] (0 : Int) a0 a4 := by kernel_rfl
theorem dg20.L0_eq (N : Nat)  (n : Nat) (x1 : Int) (x12 : (List Int)) (x14 : (List (Ty.den dY47))) (x15 : Int) (b5 : (Ty.den dY29)) (b9 : (Ty.den dY32)) : dg20.L0 N  (n + 1) x1 x12 x14 x15 b5 b9 =
  bif (decide (x15 < ((List.length x12 : Nat) : Int))) then
    Option.bind (idx x12 x15) fun r7 =>
    bif (decide (List.length x14 + List.length ([((2 : Int), (b5.1, b5.2.1, (IntKind.i64.wrap (0 - r7)), ()), ((0 : Int), (0 : Int), ()), b9.2.2.2.2.2.2.2.1, ())] : (List (Ty.den dY47))) ≤ most)) then
      bif (decide (List.length (x14 ++ ([((2 : Int), (b5.1, b5.2.1, (IntKind.i64.wrap (0 - r7)), ()), ((0 : Int), (0 : Int), ()), b9.2.2.2.2.2.2.2.1, ())] : (List (Ty.den dY47)))) + List.length ([((1 : Int), (b5.1, b5.2.1, x1, ()), ((0 : Int), (0 : Int), ()), (0 : Int), ())] : (List (Ty.den dY47))) ≤ most)) then
        dg20.L0 N n x1 x12 ((x14 ++ ([((2 : Int), (b5.1, b5.2.1, (IntKind.i64.wrap (0 - r7)), ()), ((0 : Int), (0 : Int), ()), b9.2.2.2.2.2.2.2.1, ())] : (List (Ty.den dY47)))) ++ ([((1 : Int), (b5.1, b5.2.1, x1, ()), ((0 : Int), (0 : Int), ()), (0 : Int), ())] : (List (Ty.den dY47)))) (IntKind.i64.wrap (x15 + (1 : Int))) b5 b9
      else
      none
    else
    none
  else
  dg20.S0 N x14 := by kernel_rfl
theorem dg20.L0_zero (N : Nat) (x1 : Int) (x12 : (List Int)) (x14 : (List (Ty.den dY47))) (x15 : Int) (b5 : (Ty.den dY29)) (b9 : (Ty.den dY32)) : dg20.L0 N  0 x1 x12 x14 x15 b5 b9 = none := by kernel_rfl
theorem dg20.S0_eqN (N : Nat)  (x14 : (List (Ty.den dY47))) : dg20.S0 (N + 1)  x14 =
  some (x14, (0 : Int)) := by kernel_rfl
theorem dg20.S0_eq  (x14 : (List (Ty.den dY47))) : dg20.S0 BIG  x14 =
  some (x14, (0 : Int)) := dg20.S0_eqN 18446744073709551615  x14
noncomputable def dg20 (x : DenA dg20.A) : Option (DenR dg20.R) := dg20.N BIG x
noncomputable def dcon20 : Con := ⟨20, dg20.A, dg20.R, false, dg20, none⟩
theorem dsound20 : SoundC Tryd.prog Jd dcon20 :=
  sound_of (Γ := dg20.G) (tt := dtt) (cut := dg20.cut) (keep := dg20.keep) (boxes := [5, 9]) dcon20 Tryd.f20 (fu := fun _ _ _ => BIG) dtt_ok Jd_keeps ((consS dsound18 (consS dsound30 (consS dsound10 noneS)))) dmixed (by kernel_rfl) (by kernel_rfl) fun x r h => Eq.trans (b := Con.fn dcon20 x) (by kernel_rfl) h
end Go.Ev
