/-
  PRINTED by the generator of this repo (wip/gen/gen.py): functions of the program as plain Lean functions, with an equation for each part and the proof that the Go calls do what they tell.
-/
import Derived.Test.YteiifpiainmgkaaDoorGenL
import Derived.Test.YteiifpiainmgkaaDoorProg
import Derived.KernelRfl
namespace Go.Ev
open Go Go.Proofs
set_option linter.unusedVariables false
/-! swarf/swarflaw35.DrillInside -/
noncomputable def dg7.G : List Con := [dcon8, dcon12, dcon21, dcon22, dcon23]
def dg7.cut : Cuts := [([0, 1, 0, 1, 1, 1, 1, 1, 1], [3, 4, 5, 7, 9, 10, 66, 67, 68], [3, 4, 5, 10]), ([1, 0, 0, 1, 1, 0, 0, 1, 0, 1, 1, 1, 1, 1, 1], [3, 4, 5, 7, 9, 10, 12, 66, 67, 68], [3, 4, 5, 10, 12]), ([1, 1, 1, 1, 1, 1], [4, 7], [4]), ([0, 1, 0, 1, 1, 1, 1, 0, 0, 1, 1, 0, 0, 1, 0, 1, 1, 1, 1, 1, 1], [3, 4, 5, 7, 9, 10, 12, 66, 67, 68, 112, 113, 114], [3, 4, 5, 10, 12]), ([1, 1, 1, 1, 0, 0, 1, 1, 0, 0, 1, 0, 1, 1, 1, 1, 1, 1], [3, 4, 5, 7, 9, 10, 12, 66, 67, 68], [3, 4, 5, 10, 12])]
def dg7.keep : List Nat := [3, 4, 5, 6, 7, 8, 9, 10, 11, 12, 13, 14, 16, 17, 18, 19, 20, 21, 33, 48, 66, 67, 68, 69, 102, 111, 112, 113, 114, 115, 146, 153]
@[reducible] def dg7.A : List ATy := [.v dY29, .v dY31, .v dY32]
@[reducible] def dg7.R : List Ty := [.bool]
noncomputable def dg7.N (N : Nat) (x : DenA dg7.A) : Option (DenR dg7.R) := fnR dg7.G dtt dg7.cut dg7.keep [3, 4, 5, 10, 12, 16, 19] (fun _ _ => N) Tryd.f7 dg7.R false (encA dg7.A x)
noncomputable def dg7.L0 (N : Nat) (n : Nat) (x7 : (List (Ty.den dY47))) (x9 : Int) (x66 : (List (Ty.den dY47))) (x67 : Int) (x68 : Int) (b3 : (Ty.den dY29)) (b4 : (Ty.den dY31)) (b5 : (Ty.den dY32)) (b10 : (Ty.den dY31)) : Option (DenR dg7.R) := fromLoop dg7.G dtt dg7.cut dg7.keep (fun _ _ => N) (codeOf Tryd.f7) (retK dtt Tryd.f7 dg7.R false) [1, 1, 1, 1, 1, 1, 0, 1, 0] [] n ⟨[(3, .ref 3 0), (4, .ref 4 0), (5, .ref 5 0), (7, .val ⟨(.sl dY47), x7⟩ false), (9, .val ⟨(.int .i64), x9⟩ false), (10, .ref 10 0), (66, .val ⟨(.sl dY47), x66⟩ false), (67, .val ⟨(.int .i64), x67⟩ false), (68, .val ⟨(.int .i64), x68⟩ false)], [(3, ⟨dY29, b3, []⟩), (4, ⟨dY31, b4, []⟩), (5, ⟨dY32, b5, []⟩), (10, ⟨dY31, b10, []⟩)]⟩
noncomputable def dg7.S0 (N : Nat) (n0 : Nat) (x7 : (List (Ty.den dY47))) (x9 : Int) (x66 : (List (Ty.den dY47))) (x67 : Int) (x68 : Int) (b3 : (Ty.den dY29)) (b4 : (Ty.den dY31)) (b5 : (Ty.den dY32)) (b10 : (Ty.den dY31)) (b12 : (Ty.den dY47)) : Option (DenR dg7.R) := fromSeq dg7.G dtt dg7.cut dg7.keep (fun _ _ => N) (codeOf Tryd.f7) (retK dtt Tryd.f7 dg7.R false) [1, 1, 1, 1, 1, 1, 0, 1, 0, 0, 1, 1, 0, 0, 1] [n0] ⟨[(3, .ref 3 0), (4, .ref 4 0), (5, .ref 5 0), (7, .val ⟨(.sl dY47), x7⟩ false), (9, .val ⟨(.int .i64), x9⟩ false), (10, .ref 10 0), (12, .ref 12 0), (66, .val ⟨(.sl dY47), x66⟩ false), (67, .val ⟨(.int .i64), x67⟩ false), (68, .val ⟨(.int .i64), x68⟩ false)], [(3, ⟨dY29, b3, []⟩), (4, ⟨dY31, b4, []⟩), (5, ⟨dY32, b5, []⟩), (10, ⟨dY31, b10, []⟩), (12, ⟨dY47, b12, []⟩)]⟩
noncomputable def dg7.S1 (N : Nat) (x7 : (List (Ty.den dY47))) (b4 : (Ty.den dY31)) : Option (DenR dg7.R) := fromSeq dg7.G dtt dg7.cut dg7.keep (fun _ _ => N) (codeOf Tryd.f7) (retK dtt Tryd.f7 dg7.R false) [1, 1, 1, 1, 1, 1] [] ⟨[(4, .ref 4 0), (7, .val ⟨(.sl dY47), x7⟩ false)], [(4, ⟨dY31, b4, []⟩)]⟩
noncomputable def dg7.L1 (N : Nat) (n0 : Nat) (n : Nat) (x7 : (List (Ty.den dY47))) (x9 : Int) (x66 : (List (Ty.den dY47))) (x67 : Int) (x68 : Int) (x112 : (List (Ty.den dY31))) (x113 : Int) (x114 : Int) (b3 : (Ty.den dY29)) (b4 : (Ty.den dY31)) (b5 : (Ty.den dY32)) (b10 : (Ty.den dY31)) (b12 : (Ty.den dY47)) : Option (DenR dg7.R) := fromLoop dg7.G dtt dg7.cut dg7.keep (fun _ _ => N) (codeOf Tryd.f7) (retK dtt Tryd.f7 dg7.R false) [1, 1, 1, 1, 1, 1, 0, 1, 0, 0, 1, 1, 0, 0, 1, 1, 1, 1, 0, 1, 0] [n0] n ⟨[(3, .ref 3 0), (4, .ref 4 0), (5, .ref 5 0), (7, .val ⟨(.sl dY47), x7⟩ false), (9, .val ⟨(.int .i64), x9⟩ false), (10, .ref 10 0), (12, .ref 12 0), (66, .val ⟨(.sl dY47), x66⟩ false), (67, .val ⟨(.int .i64), x67⟩ false), (68, .val ⟨(.int .i64), x68⟩ false), (112, .val ⟨(.sl dY31), x112⟩ false), (113, .val ⟨(.int .i64), x113⟩ false), (114, .val ⟨(.int .i64), x114⟩ false)], [(3, ⟨dY29, b3, []⟩), (4, ⟨dY31, b4, []⟩), (5, ⟨dY32, b5, []⟩), (10, ⟨dY31, b10, []⟩), (12, ⟨dY47, b12, []⟩)]⟩
noncomputable def dg7.S2 (N : Nat) (n0 : Nat) (x7 : (List (Ty.den dY47))) (x9 : Int) (x66 : (List (Ty.den dY47))) (x67 : Int) (x68 : Int) (b3 : (Ty.den dY29)) (b4 : (Ty.den dY31)) (b5 : (Ty.den dY32)) (b10 : (Ty.den dY31)) (b12 : (Ty.den dY47)) : Option (DenR dg7.R) := fromSeq dg7.G dtt dg7.cut dg7.keep (fun _ _ => N) (codeOf Tryd.f7) (retK dtt Tryd.f7 dg7.R false) [1, 1, 1, 1, 1, 1, 0, 1, 0, 0, 1, 1, 0, 0, 1, 1, 1, 1] [n0] ⟨[(3, .ref 3 0), (4, .ref 4 0), (5, .ref 5 0), (7, .val ⟨(.sl dY47), x7⟩ false), (9, .val ⟨(.int .i64), x9⟩ false), (10, .ref 10 0), (12, .ref 12 0), (66, .val ⟨(.sl dY47), x66⟩ false), (67, .val ⟨(.int .i64), x67⟩ false), (68, .val ⟨(.int .i64), x68⟩ false)], [(3, ⟨dY29, b3, []⟩), (4, ⟨dY31, b4, []⟩), (5, ⟨dY32, b5, []⟩), (10, ⟨dY31, b10, []⟩), (12, ⟨dY47, b12, []⟩)]⟩
theorem dg7.eq (N : Nat) (a0 : (Ty.den dY29)) (a1 : (Ty.den dY31)) (a2 : (Ty.den dY32)) : dg7.N N (a0, a1, a2, ()) =
  Option.bind (dg8 ()) fun y1 =>
  bif (!y1) then
    Option.bind (dg8 ()) fun y2 =>
    some y2
  else
  bif (decide (a1.2.2.1 > (20000 : Int))) then
    Option.bind (dg8 ()) fun y3 =>
    some y3
  else
  bif (decide (a2.2.2.2.2.2.1 < (500 : Int))) then
    Option.bind (dg8 ()) fun y4 =>
    some y4
  else
  Option.bind (dg12 (a0, a1.1, a1.2.1, a1.2.2.1, a2, ())) fun y5 =>
  bif (y5.2 != (0 : Int)) then
    some (((List.length y5.1 : Nat) : Int) == (0 : Int))
  else
  dg7.L0 N N y5.1 (IntKind.i64.wrap (a1.1 - a2.2.2.1)) y5.1 ((List.length y5.1 : Nat) : Int) (0 : Int) a0 a1 a2 ((IntKind.i64.wrap (a0.1 + (IntKind.i64.wrap (a1.1 - a2.2.2.1)))), a0.2.1, a1.2.1, ()) := by kernel_rfl
theorem dg7.L0_eq (N : Nat)  (n : Nat) (x7 : (List (Ty.den dY47))) (x9 : Int) (x66 : (List (Ty.den dY47))) (x67 : Int) (x68 : Int) (b3 : (Ty.den dY29)) (b4 : (Ty.den dY31)) (b5 : (Ty.den dY32)) (b10 : (Ty.den dY31)) : dg7.L0 N  (n + 1) x7 x9 x66 x67 x68 b3 b4 b5 b10 =
  bif (decide (x68 < x67)) then
    Option.bind (idx x66 x68) fun r6 =>
    Option.bind (dg21 (b10, r6, ())) fun y7 =>
    bif (y7 != (0 : Int)) then
      some false
    else
    bif (decide (x68 ≥ (4 : Int))) then
      bif (r6.1 == (4 : Int)) then
        Option.bind (idx x7 (IntKind.i64.wrap (x68 - (4 : Int)))) fun r8 =>
        bif (decide ((IntKind.i64.wrap (r8.2.1.2.2.1 - r6.2.1.2.2.1)) > (IntKind.i64.wrap (b5.2.2.2.2.2.1 + (1 : Int))))) then
          some false
        else
        dg7.S0 N n x7 x9 x66 x67 x68 b3 b4 b5 b10 r6
      else
      dg7.S0 N n x7 x9 x66 x67 x68 b3 b4 b5 b10 r6
    else
    dg7.S0 N n x7 x9 x66 x67 x68 b3 b4 b5 b10 r6
  else
  dg7.S1 N x7 b4 := by kernel_rfl
theorem dg7.L0_zero (N : Nat) (x7 : (List (Ty.den dY47))) (x9 : Int) (x66 : (List (Ty.den dY47))) (x67 : Int) (x68 : Int) (b3 : (Ty.den dY29)) (b4 : (Ty.den dY31)) (b5 : (Ty.den dY32)) (b10 : (Ty.den dY31)) : dg7.L0 N  0 x7 x9 x66 x67 x68 b3 b4 b5 b10 = none := by kernel_rfl
theorem dg7.S0_eqN (N : Nat) (n0 : Nat) (x7 : (List (Ty.den dY47))) (x9 : Int) (x66 : (List (Ty.den dY47))) (x67 : Int) (x68 : Int) (b3 : (Ty.den dY29)) (b4 : (Ty.den dY31)) (b5 : (Ty.den dY32)) (b10 : (Ty.den dY31)) (b12 : (Ty.den dY47)) : dg7.S0 (N + 1) n0 x7 x9 x66 x67 x68 b3 b4 b5 b10 b12 =
  Option.bind (dg22 (b10, [b12], ())) fun y9 =>
  bif (y9.2 != (0 : Int)) then
    some false
  else
  dg7.L1 (N + 1) n0 (N + 1) x7 x9 x66 x67 x68 y9.1 ((List.length y9.1 : Nat) : Int) (0 : Int) b3 b4 b5 b10 b12 := by kernel_rfl
theorem dg7.S0_eq (n0 : Nat) (x7 : (List (Ty.den dY47))) (x9 : Int) (x66 : (List (Ty.den dY47))) (x67 : Int) (x68 : Int) (b3 : (Ty.den dY29)) (b4 : (Ty.den dY31)) (b5 : (Ty.den dY32)) (b10 : (Ty.den dY31)) (b12 : (Ty.den dY47)) : dg7.S0 BIG n0 x7 x9 x66 x67 x68 b3 b4 b5 b10 b12 =
  Option.bind (dg22 (b10, [b12], ())) fun y9 =>
  bif (y9.2 != (0 : Int)) then
    some false
  else
  dg7.L1 BIG n0 BIG x7 x9 x66 x67 x68 y9.1 ((List.length y9.1 : Nat) : Int) (0 : Int) b3 b4 b5 b10 b12 := dg7.S0_eqN 18446744073709551615 n0 x7 x9 x66 x67 x68 b3 b4 b5 b10 b12
theorem dg7.S1_eqN (N : Nat)  (x7 : (List (Ty.den dY47))) (b4 : (Ty.den dY31)) : dg7.S1 (N + 1)  x7 b4 =
  bif (decide (((List.length x7 : Nat) : Int) < (4 : Int))) then
    some false
  else
  Option.bind (idx x7 (IntKind.i64.wrap (((List.length x7 : Nat) : Int) - (3 : Int)))) fun r10 =>
  Option.bind (idx x7 (IntKind.i64.wrap (((List.length x7 : Nat) : Int) - (4 : Int)))) fun r11 =>
  Option.bind (dg23 (r11.2.1, r10, ())) fun y12 =>
  bif (y12.2 == (0 : Int)) then
    bif (y12.1 == (4 : Int)) then
      bif (r10.2.1.2.2.1 == (IntKind.i64.wrap (0 - b4.2.2.1))) then
        Option.bind (idx x7 (IntKind.i64.wrap (((List.length x7 : Nat) : Int) - (4 : Int)))) fun r13 =>
        some (r13.2.1.2.2.1 == (IntKind.i64.wrap (0 - b4.2.2.1)))
      else
      some false
    else
    some false
  else
  some false := by kernel_rfl
theorem dg7.S1_eq  (x7 : (List (Ty.den dY47))) (b4 : (Ty.den dY31)) : dg7.S1 BIG  x7 b4 =
  bif (decide (((List.length x7 : Nat) : Int) < (4 : Int))) then
    some false
  else
  Option.bind (idx x7 (IntKind.i64.wrap (((List.length x7 : Nat) : Int) - (3 : Int)))) fun r10 =>
  Option.bind (idx x7 (IntKind.i64.wrap (((List.length x7 : Nat) : Int) - (4 : Int)))) fun r11 =>
  Option.bind (dg23 (r11.2.1, r10, ())) fun y12 =>
  bif (y12.2 == (0 : Int)) then
    bif (y12.1 == (4 : Int)) then
      bif (r10.2.1.2.2.1 == (IntKind.i64.wrap (0 - b4.2.2.1))) then
        Option.bind (idx x7 (IntKind.i64.wrap (((List.length x7 : Nat) : Int) - (4 : Int)))) fun r13 =>
        some (r13.2.1.2.2.1 == (IntKind.i64.wrap (0 - b4.2.2.1)))
      else
      some false
    else
    some false
  else
  some false := dg7.S1_eqN 18446744073709551615  x7 b4
theorem dg7.L1_eq (N : Nat) (n0 : Nat) (n : Nat) (x7 : (List (Ty.den dY47))) (x9 : Int) (x66 : (List (Ty.den dY47))) (x67 : Int) (x68 : Int) (x112 : (List (Ty.den dY31))) (x113 : Int) (x114 : Int) (b3 : (Ty.den dY29)) (b4 : (Ty.den dY31)) (b5 : (Ty.den dY32)) (b10 : (Ty.den dY31)) (b12 : (Ty.den dY47)) : dg7.L1 N n0 (n + 1) x7 x9 x66 x67 x68 x112 x113 x114 b3 b4 b5 b10 b12 =
  bif (decide (x114 < x113)) then
    Option.bind (idx x112 x114) fun r14 =>
    let v15 : Int := (IntKind.i64.wrap ((IntKind.i64.wrap ((IntKind.i64.wrap (r14.1 - b3.1)) * (IntKind.i64.wrap (r14.1 - b3.1)))) + (IntKind.i64.wrap ((IntKind.i64.wrap (r14.2.1 - b3.2.1)) * (IntKind.i64.wrap (r14.2.1 - b3.2.1))))))
    bif (decide (v15 > (IntKind.i64.wrap (x9 * x9)))) then
      some false
    else
    bif (decide (r14.2.2.1 < (IntKind.i64.wrap (0 - b4.2.2.1)))) then
      some false
    else
    dg7.L1 N n0 n x7 x9 x66 x67 x68 x112 x113 (IntKind.i64.wrap (x114 + (1 : Int))) b3 b4 b5 b10 b12
  else
  dg7.S2 N n0 x7 x9 x66 x67 x68 b3 b4 b5 b10 b12 := by kernel_rfl
theorem dg7.L1_zero (N : Nat) (n0 : Nat) (x7 : (List (Ty.den dY47))) (x9 : Int) (x66 : (List (Ty.den dY47))) (x67 : Int) (x68 : Int) (x112 : (List (Ty.den dY31))) (x113 : Int) (x114 : Int) (b3 : (Ty.den dY29)) (b4 : (Ty.den dY31)) (b5 : (Ty.den dY32)) (b10 : (Ty.den dY31)) (b12 : (Ty.den dY47)) : dg7.L1 N n0 0 x7 x9 x66 x67 x68 x112 x113 x114 b3 b4 b5 b10 b12 = none := by kernel_rfl
theorem dg7.S2_eqN (N : Nat) (n0 : Nat) (x7 : (List (Ty.den dY47))) (x9 : Int) (x66 : (List (Ty.den dY47))) (x67 : Int) (x68 : Int) (b3 : (Ty.den dY29)) (b4 : (Ty.den dY31)) (b5 : (Ty.den dY32)) (b10 : (Ty.den dY31)) (b12 : (Ty.den dY47)) : dg7.S2 (N + 1) n0 x7 x9 x66 x67 x68 b3 b4 b5 b10 b12 =
  dg7.L0 (N + 1) n0 x7 x9 x66 x67 (IntKind.i64.wrap (x68 + (1 : Int))) b3 b4 b5 b12.2.1 := by kernel_rfl
theorem dg7.S2_eq (n0 : Nat) (x7 : (List (Ty.den dY47))) (x9 : Int) (x66 : (List (Ty.den dY47))) (x67 : Int) (x68 : Int) (b3 : (Ty.den dY29)) (b4 : (Ty.den dY31)) (b5 : (Ty.den dY32)) (b10 : (Ty.den dY31)) (b12 : (Ty.den dY47)) : dg7.S2 BIG n0 x7 x9 x66 x67 x68 b3 b4 b5 b10 b12 =
  dg7.L0 BIG n0 x7 x9 x66 x67 (IntKind.i64.wrap (x68 + (1 : Int))) b3 b4 b5 b12.2.1 := dg7.S2_eqN 18446744073709551615 n0 x7 x9 x66 x67 x68 b3 b4 b5 b10 b12
noncomputable def dg7 (x : DenA dg7.A) : Option (DenR dg7.R) := dg7.N BIG x
noncomputable def dcon7 : Con := ⟨7, dg7.A, dg7.R, false, dg7, none⟩
theorem dsound7 : SoundC Tryd.prog Jd dcon7 :=
  sound_of (Γ := dg7.G) (tt := dtt) (cut := dg7.cut) (keep := dg7.keep) (boxes := [3, 4, 5, 10, 12, 16, 19]) dcon7 Tryd.f7 (fu := fun _ _ _ => BIG) dtt_ok Jd_keeps ((consS dsound8 (consS dsound12 (consS dsound21 (consS dsound22 (consS dsound23 noneS)))))) dmixed (by kernel_rfl) (by kernel_rfl) fun x r h => Eq.trans (b := Con.fn dcon7 x) (by kernel_rfl) h
end Go.Ev
