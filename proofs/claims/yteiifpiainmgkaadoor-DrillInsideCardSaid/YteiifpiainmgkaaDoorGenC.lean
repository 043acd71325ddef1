/-
  PRINTED by the generator of this repo (wip/gen/gen.py): functions of the program as plain Lean functions, with an equation for each part and the proof that the Go calls do what they tell.
-/
import Derived.Test.YteiifpiainmgkaaDoorGenB
import Derived.Test.YteiifpiainmgkaaDoorProg
import Derived.KernelRfl
namespace Go.Ev
open Go Go.Proofs
set_option linter.unusedVariables false
/-! swarf/swarfref35.Bore -/
noncomputable def dg13.G : List Con := [dcon18, dcon29, dcon30]
def dg13.cut : Cuts := [([0, 1, 0, 1, 1, 1, 1, 1, 1, 1, 1, 1], [2, 3, 5, 9, 12, 13, 14, 15, 16], [5, 9, 14]), ([1, 0, 0, 1, 0, 0, 1, 0, 1, 1, 1, 1, 1, 1, 1, 1, 1], [2, 3, 5, 9, 12, 13, 14, 15, 16, 17], [5, 9, 14, 17]), ([1, 1, 1, 1, 1, 1, 1, 1, 1], [2, 3, 5, 9, 14, 15], [5, 9, 14])]
def dg13.keep : List Nat := [1, 2, 3, 5, 9, 10, 11, 12, 13, 14, 15, 16, 17, 37, 47, 95, 107, 123, 143, 149, 156, 163]
@[reducible] def dg13.A : List ATy := [.v dY29, .v (.int .i64), .v (.int .i64), .v (.int .i64), .v dY32]
@[reducible] def dg13.R : List Ty := [(.sl dY47), (.int .i64)]
noncomputable def dg13.N (N : Nat) (x : DenA dg13.A) : Option (DenR dg13.R) := fnR dg13.G dtt dg13.cut dg13.keep [5, 9, 14, 17] (fun _ _ => N) Tryd.f13 dg13.R false (encA dg13.A x)
noncomputable def dg13.L0 (N : Nat) (n : Nat) (x2 : Int) (x3 : Int) (x12 : Int) (x13 : Int) (x15 : (List (Ty.den dY47))) (x16 : Int) (b5 : (Ty.den dY29)) (b9 : (Ty.den dY32)) (b14 : (Ty.den dY31)) : Option (DenR dg13.R) := fromLoop dg13.G dtt dg13.cut dg13.keep (fun _ _ => N) (codeOf Tryd.f13) (retK dtt Tryd.f13 dg13.R false) [1, 1, 1, 1, 1, 1, 1, 1, 1, 0, 1, 0] [] n ⟨[(2, .val ⟨(.int .i64), x2⟩ false), (3, .val ⟨(.int .i64), x3⟩ false), (5, .ref 5 0), (9, .ref 9 0), (12, .val ⟨(.int .i64), x12⟩ false), (13, .val ⟨(.int .i64), x13⟩ false), (14, .ref 14 0), (15, .val ⟨(.sl dY47), x15⟩ true), (16, .val ⟨(.int .i64), x16⟩ false)], [(5, ⟨dY29, b5, []⟩), (9, ⟨dY32, b9, []⟩), (14, ⟨dY31, b14, []⟩)]⟩
noncomputable def dg13.S0 (N : Nat) (n0 : Nat) (x2 : Int) (x3 : Int) (x12 : Int) (x13 : Int) (x15 : (List (Ty.den dY47))) (x16 : Int) (b5 : (Ty.den dY29)) (b9 : (Ty.den dY32)) (b14 : (Ty.den dY31)) (b17 : (Ty.den dY31)) : Option (DenR dg13.R) := fromSeq dg13.G dtt dg13.cut dg13.keep (fun _ _ => N) (codeOf Tryd.f13) (retK dtt Tryd.f13 dg13.R false) [1, 1, 1, 1, 1, 1, 1, 1, 1, 0, 1, 0, 0, 1, 0, 0, 1] [n0] ⟨[(2, .val ⟨(.int .i64), x2⟩ false), (3, .val ⟨(.int .i64), x3⟩ false), (5, .ref 5 0), (9, .ref 9 0), (12, .val ⟨(.int .i64), x12⟩ false), (13, .val ⟨(.int .i64), x13⟩ false), (14, .ref 14 0), (15, .val ⟨(.sl dY47), x15⟩ true), (16, .val ⟨(.int .i64), x16⟩ false), (17, .ref 17 0)], [(5, ⟨dY29, b5, []⟩), (9, ⟨dY32, b9, []⟩), (14, ⟨dY31, b14, []⟩), (17, ⟨dY31, b17, []⟩)]⟩
noncomputable def dg13.S1 (N : Nat) (x2 : Int) (x3 : Int) (x15 : (List (Ty.den dY47))) (b5 : (Ty.den dY29)) (b9 : (Ty.den dY32)) (b14 : (Ty.den dY31)) : Option (DenR dg13.R) := fromSeq dg13.G dtt dg13.cut dg13.keep (fun _ _ => N) (codeOf Tryd.f13) (retK dtt Tryd.f13 dg13.R false) [1, 1, 1, 1, 1, 1, 1, 1, 1] [] ⟨[(2, .val ⟨(.int .i64), x2⟩ false), (3, .val ⟨(.int .i64), x3⟩ false), (5, .ref 5 0), (9, .ref 9 0), (14, .ref 14 0), (15, .val ⟨(.sl dY47), x15⟩ true)], [(5, ⟨dY29, b5, []⟩), (9, ⟨dY32, b9, []⟩), (14, ⟨dY31, b14, []⟩)]⟩
theorem dg13.eq (N : Nat) (a0 : (Ty.den dY29)) (a1 : Int) (a2 : Int) (a3 : Int) (a4 : (Ty.den dY32)) : dg13.N N (a0, a1, a2, a3, a4, ()) =
  Option.bind (dg18 (a4, ())) fun y1 =>
  bif (!y1) then
    some ([], (1 : Int))
  else
  bif (a4.2.1 != (1 : Int)) then
    some ([], (1 : Int))
  else
  bif (decide (a2 < (0 : Int))) then
    some ([], (1 : Int))
  else
  bif (decide (a1 ≤ (0 : Int))) then
    some ([], (1 : Int))
  else
  bif (decide (a3 ≤ (0 : Int))) then
    some ([], (1 : Int))
  else
  bif (decide (a4.2.2.2.1 < a3)) then
    some ([], (16 : Int))
  else
  Option.bind (dg29 (a4, a1, ())) fun y2 =>
  bif (!y2) then
    some ([], (16 : Int))
  else
  Option.bind (dg30 (a0.1, ())) fun y3 =>
  bif y3 then
    some ([], (11 : Int))
  else
  Option.bind (dg30 (a0.2.1, ())) fun y4 =>
  bif y4 then
    some ([], (11 : Int))
  else
  Option.bind (dg30 (a2, ())) fun y5 =>
  bif y5 then
    some ([], (11 : Int))
  else
  Option.bind (dg30 (a3, ())) fun y6 =>
  bif y6 then
    some ([], (11 : Int))
  else
  Option.bind (dg30 ((IntKind.i64.wrap (a0.1 + (IntKind.i64.wrap (a1 - a4.2.2.1)))), ())) fun y7 =>
  bif y7 then
    some ([], (11 : Int))
  else
  Option.bind (dg30 ((IntKind.i64.wrap (a0.1 - (IntKind.i64.wrap (a1 - a4.2.2.1)))), ())) fun y8 =>
  bif y8 then
    some ([], (11 : Int))
  else
  Option.bind (dg30 ((IntKind.i64.wrap (a0.2.1 + (IntKind.i64.wrap (a1 - a4.2.2.1)))), ())) fun y9 =>
  bif y9 then
    some ([], (11 : Int))
  else
  Option.bind (dg30 ((IntKind.i64.wrap (a0.2.1 - (IntKind.i64.wrap (a1 - a4.2.2.1)))), ())) fun y10 =>
  bif y10 then
    some ([], (11 : Int))
  else
  bif (a4.2.2.2.2.2.1 == 0) then
    none
  else
  let v11 : Int := (IntKind.i64.wrap ((IntKind.i64.wrap ((4 : Int) * (IntKind.i64.wrap (Int.tdiv (IntKind.i64.wrap ((IntKind.i64.wrap (a3 + a4.2.2.2.2.2.1)) - (1 : Int))) a4.2.2.2.2.2.1)))) + (4 : Int)))
  bif (decide (v11 > (20000 : Int))) then
    some ([], (3 : Int))
  else
  dg13.L0 N N a2 a3 (IntKind.i64.wrap (a1 - a4.2.2.1)) (IntKind.i64.wrap (Int.tdiv (IntKind.i64.wrap ((IntKind.i64.wrap (a3 + a4.2.2.2.2.2.1)) - (1 : Int))) a4.2.2.2.2.2.1)) [((2 : Int), ((IntKind.i64.wrap (a0.1 + (IntKind.i64.wrap (a1 - a4.2.2.1)))), a0.2.1, (0 : Int), ()), ((0 : Int), (0 : Int), ()), a4.2.2.2.2.2.2.2.1, ())] (1 : Int) a0 a4 ((IntKind.i64.wrap (a0.1 + (IntKind.i64.wrap (a1 - a4.2.2.1)))), a0.2.1, (0 : Int), ()) := by kernel_rfl
theorem dg13.L0_eq (N : Nat)  (n : Nat) (x2 : Int) (x3 : Int) (x12 : Int) (x13 : Int) (x15 : (List (Ty.den dY47))) (x16 : Int) (b5 : (Ty.den dY29)) (b9 : (Ty.den dY32)) (b14 : (Ty.den dY31)) : dg13.L0 N  (n + 1) x2 x3 x12 x13 x15 x16 b5 b9 b14 =
  bif (decide (x16 ≤ (IntKind.i64.wrap ((4 : Int) * x13)))) then
    bif ((IntKind.i64.wrap ((4 : Int) * x13)) == 0) then
      none
    else
    let v12 : Int := (IntKind.i64.wrap (Int.tdiv (IntKind.i64.wrap ((IntKind.i64.wrap ((IntKind.i64.wrap (x16 * x3)) + (IntKind.i64.wrap ((4 : Int) * x13)))) - (1 : Int))) (IntKind.i64.wrap ((4 : Int) * x13))))
    bif ((Int.tmod x16 (4 : Int)) == (0 : Int)) then
      dg13.S0 N n x2 x3 x12 x13 x15 x16 b5 b9 b14 ((IntKind.i64.wrap (b5.1 + x12)), b5.2.1, (IntKind.i64.wrap (0 - v12)), ())
    else
    bif ((Int.tmod x16 (4 : Int)) == (1 : Int)) then
      dg13.S0 N n x2 x3 x12 x13 x15 x16 b5 b9 b14 (b5.1, (IntKind.i64.wrap (b5.2.1 + x12)), (IntKind.i64.wrap (0 - v12)), ())
    else
    bif ((Int.tmod x16 (4 : Int)) == (2 : Int)) then
      dg13.S0 N n x2 x3 x12 x13 x15 x16 b5 b9 b14 ((IntKind.i64.wrap (b5.1 - x12)), b5.2.1, (IntKind.i64.wrap (0 - v12)), ())
    else
    dg13.S0 N n x2 x3 x12 x13 x15 x16 b5 b9 b14 (b5.1, (IntKind.i64.wrap (b5.2.1 - x12)), (IntKind.i64.wrap (0 - v12)), ())
  else
  dg13.S1 N x2 x3 x15 b5 b9 b14 := by kernel_rfl
theorem dg13.L0_zero (N : Nat) (x2 : Int) (x3 : Int) (x12 : Int) (x13 : Int) (x15 : (List (Ty.den dY47))) (x16 : Int) (b5 : (Ty.den dY29)) (b9 : (Ty.den dY32)) (b14 : (Ty.den dY31)) : dg13.L0 N  0 x2 x3 x12 x13 x15 x16 b5 b9 b14 = none := by kernel_rfl
theorem dg13.S0_eqN (N : Nat) (n0 : Nat) (x2 : Int) (x3 : Int) (x12 : Int) (x13 : Int) (x15 : (List (Ty.den dY47))) (x16 : Int) (b5 : (Ty.den dY29)) (b9 : (Ty.den dY32)) (b14 : (Ty.den dY31)) (b17 : (Ty.den dY31)) : dg13.S0 (N + 1) n0 x2 x3 x12 x13 x15 x16 b5 b9 b14 b17 =
  bif (decide (List.length x15 + List.length ([((4 : Int), b17, b5, b9.2.2.2.2.2.2.1, ())] : (List (Ty.den dY47))) ≤ most)) then
    dg13.L0 (N + 1) n0 x2 x3 x12 x13 (x15 ++ ([((4 : Int), b17, b5, b9.2.2.2.2.2.2.1, ())] : (List (Ty.den dY47)))) (IntKind.i64.wrap (x16 + (1 : Int))) b5 b9 b14
  else
  none := by kernel_rfl
theorem dg13.S0_eq (n0 : Nat) (x2 : Int) (x3 : Int) (x12 : Int) (x13 : Int) (x15 : (List (Ty.den dY47))) (x16 : Int) (b5 : (Ty.den dY29)) (b9 : (Ty.den dY32)) (b14 : (Ty.den dY31)) (b17 : (Ty.den dY31)) : dg13.S0 BIG n0 x2 x3 x12 x13 x15 x16 b5 b9 b14 b17 =
  bif (decide (List.length x15 + List.length ([((4 : Int), b17, b5, b9.2.2.2.2.2.2.1, ())] : (List (Ty.den dY47))) ≤ most)) then
    dg13.L0 BIG n0 x2 x3 x12 x13 (x15 ++ ([((4 : Int), b17, b5, b9.2.2.2.2.2.2.1, ())] : (List (Ty.den dY47)))) (IntKind.i64.wrap (x16 + (1 : Int))) b5 b9 b14
  else
  none := dg13.S0_eqN 18446744073709551615 n0 x2 x3 x12 x13 x15 x16 b5 b9 b14 b17
theorem dg13.S1_eqN (N : Nat)  (x2 : Int) (x3 : Int) (x15 : (List (Ty.den dY47))) (b5 : (Ty.den dY29)) (b9 : (Ty.den dY32)) (b14 : (Ty.den dY31)) : dg13.S1 (N + 1)  x2 x3 x15 b5 b9 b14 =
  bif (decide (List.length x15 + List.length ([((4 : Int), (b14.1, b14.2.1, (IntKind.i64.wrap (0 - x3)), b14.2.2.2), b5, b9.2.2.2.2.2.2.1, ())] : (List (Ty.den dY47))) ≤ most)) then
    bif (decide (List.length (x15 ++ ([((4 : Int), (b14.1, b14.2.1, (IntKind.i64.wrap (0 - x3)), b14.2.2.2), b5, b9.2.2.2.2.2.2.1, ())] : (List (Ty.den dY47)))) + List.length ([((2 : Int), (b5.1, b5.2.1, (IntKind.i64.wrap (0 - x3)), ()), ((0 : Int), (0 : Int), ()), b9.2.2.2.2.2.2.1, ())] : (List (Ty.den dY47))) ≤ most)) then
      bif (decide (List.length ((x15 ++ ([((4 : Int), (b14.1, b14.2.1, (IntKind.i64.wrap (0 - x3)), b14.2.2.2), b5, b9.2.2.2.2.2.2.1, ())] : (List (Ty.den dY47)))) ++ ([((2 : Int), (b5.1, b5.2.1, (IntKind.i64.wrap (0 - x3)), ()), ((0 : Int), (0 : Int), ()), b9.2.2.2.2.2.2.1, ())] : (List (Ty.den dY47)))) + List.length ([((1 : Int), (b5.1, b5.2.1, x2, ()), ((0 : Int), (0 : Int), ()), (0 : Int), ())] : (List (Ty.den dY47))) ≤ most)) then
        some ((((x15 ++ ([((4 : Int), (b14.1, b14.2.1, (IntKind.i64.wrap (0 - x3)), b14.2.2.2), b5, b9.2.2.2.2.2.2.1, ())] : (List (Ty.den dY47)))) ++ ([((2 : Int), (b5.1, b5.2.1, (IntKind.i64.wrap (0 - x3)), ()), ((0 : Int), (0 : Int), ()), b9.2.2.2.2.2.2.1, ())] : (List (Ty.den dY47)))) ++ ([((1 : Int), (b5.1, b5.2.1, x2, ()), ((0 : Int), (0 : Int), ()), (0 : Int), ())] : (List (Ty.den dY47)))), (0 : Int))
      else
      none
    else
    none
  else
  none := by kernel_rfl
theorem dg13.S1_eq  (x2 : Int) (x3 : Int) (x15 : (List (Ty.den dY47))) (b5 : (Ty.den dY29)) (b9 : (Ty.den dY32)) (b14 : (Ty.den dY31)) : dg13.S1 BIG  x2 x3 x15 b5 b9 b14 =
  bif (decide (List.length x15 + List.length ([((4 : Int), (b14.1, b14.2.1, (IntKind.i64.wrap (0 - x3)), b14.2.2.2), b5, b9.2.2.2.2.2.2.1, ())] : (List (Ty.den dY47))) ≤ most)) then
    bif (decide (List.length (x15 ++ ([((4 : Int), (b14.1, b14.2.1, (IntKind.i64.wrap (0 - x3)), b14.2.2.2), b5, b9.2.2.2.2.2.2.1, ())] : (List (Ty.den dY47)))) + List.length ([((2 : Int), (b5.1, b5.2.1, (IntKind.i64.wrap (0 - x3)), ()), ((0 : Int), (0 : Int), ()), b9.2.2.2.2.2.2.1, ())] : (List (Ty.den dY47))) ≤ most)) then
      bif (decide (List.length ((x15 ++ ([((4 : Int), (b14.1, b14.2.1, (IntKind.i64.wrap (0 - x3)), b14.2.2.2), b5, b9.2.2.2.2.2.2.1, ())] : (List (Ty.den dY47)))) ++ ([((2 : Int), (b5.1, b5.2.1, (IntKind.i64.wrap (0 - x3)), ()), ((0 : Int), (0 : Int), ()), b9.2.2.2.2.2.2.1, ())] : (List (Ty.den dY47)))) + List.length ([((1 : Int), (b5.1, b5.2.1, x2, ()), ((0 : Int), (0 : Int), ()), (0 : Int), ())] : (List (Ty.den dY47))) ≤ most)) then
        some ((((x15 ++ ([((4 : Int), (b14.1, b14.2.1, (IntKind.i64.wrap (0 - x3)), b14.2.2.2), b5, b9.2.2.2.2.2.2.1, ())] : (List (Ty.den dY47)))) ++ ([((2 : Int), (b5.1, b5.2.1, (IntKind.i64.wrap (0 - x3)), ()), ((0 : Int), (0 : Int), ()), b9.2.2.2.2.2.2.1, ())] : (List (Ty.den dY47)))) ++ ([((1 : Int), (b5.1, b5.2.1, x2, ()), ((0 : Int), (0 : Int), ()), (0 : Int), ())] : (List (Ty.den dY47)))), (0 : Int))
      else
      none
    else
    none
  else
  none := dg13.S1_eqN 18446744073709551615  x2 x3 x15 b5 b9 b14
noncomputable def dg13 (x : DenA dg13.A) : Option (DenR dg13.R) := dg13.N BIG x
noncomputable def dcon13 : Con := ⟨13, dg13.A, dg13.R, false, dg13, none⟩
theorem dsound13 : SoundC Tryd.prog Jd dcon13 :=
  sound_of (Γ := dg13.G) (tt := dtt) (cut := dg13.cut) (keep := dg13.keep) (boxes := [5, 9, 14, 17]) dcon13 Tryd.f13 (fu := fun _ _ _ => BIG) dtt_ok Jd_keeps ((consS dsound18 (consS dsound29 (consS dsound30 noneS)))) dmixed (by kernel_rfl) (by kernel_rfl) fun x r h => Eq.trans (b := Con.fn dcon13 x) (by kernel_rfl) h
end Go.Ev
