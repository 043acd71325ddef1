/-
  PRINTED by the generator of this repo (wip/gen/gen.py): functions of the program as plain Lean functions, with an equation for each part and the proof that the Go calls do what they tell.
-/
import Derived.Test.YteiifpiainmgkaaDoorGenI
import Derived.Test.YteiifpiainmgkaaDoorProg
import Derived.KernelRfl
namespace Go.Ev
open Go Go.Proofs
set_option linter.unusedVariables false
/-! swarf/interpolate.apart -/
noncomputable def dg35.G : List Con := []
def dg35.cut : Cuts := [([1], [0, 1], [])]
def dg35.keep : List Nat := [0, 1, 4, 7]
@[reducible] def dg35.A : List ATy := [.v (.int .i64), .v (.int .i64)]
@[reducible] def dg35.R : List Ty := [(.int .u64)]
noncomputable def dg35.N (N : Nat) (x : DenA dg35.A) : Option (DenR dg35.R) := fnR dg35.G dtt dg35.cut dg35.keep [] (fun _ _ => N) Tryd.f35 dg35.R false (encA dg35.A x)
noncomputable def dg35.S0 (N : Nat) (x0 : Int) (x1 : Int) : Option (DenR dg35.R) := fromSeq dg35.G dtt dg35.cut dg35.keep (fun _ _ => N) (codeOf Tryd.f35) (retK dtt Tryd.f35 dg35.R false) [1] [] ⟨[(0, .val ⟨(.int .i64), x0⟩ false), (1, .val ⟨(.int .i64), x1⟩ false)], []⟩
theorem dg35.eq (N : Nat) (a0 : Int) (a1 : Int) : dg35.N N (a0, a1, ()) =
  bif (decide (a0 < a1)) then
    dg35.S0 N a1 a0
  else
  dg35.S0 N a0 a1 := by kernel_rfl
theorem dg35.S0_eqN (N : Nat)  (x0 : Int) (x1 : Int) : dg35.S0 (N + 1)  x0 x1 =
  some (IntKind.u64.wrap ((IntKind.u64.wrap x0) - (IntKind.u64.wrap x1))) := by kernel_rfl
theorem dg35.S0_eq  (x0 : Int) (x1 : Int) : dg35.S0 BIG  x0 x1 =
  some (IntKind.u64.wrap ((IntKind.u64.wrap x0) - (IntKind.u64.wrap x1))) := dg35.S0_eqN 18446744073709551615  x0 x1
noncomputable def dg35 (x : DenA dg35.A) : Option (DenR dg35.R) := dg35.N BIG x
noncomputable def dcon35 : Con := ⟨35, dg35.A, dg35.R, false, dg35, none⟩
theorem dsound35 : SoundC Tryd.prog Jd dcon35 :=
  sound_of (Γ := dg35.G) (tt := dtt) (cut := dg35.cut) (keep := dg35.keep) (boxes := []) dcon35 Tryd.f35 (fu := fun _ _ _ => BIG) dtt_ok Jd_keeps (noneS) dmixed (by kernel_rfl) (by kernel_rfl) fun x r h => Eq.trans (b := Con.fn dcon35 x) (by kernel_rfl) h
/-! swarf/interpolate.point -/
noncomputable def dg34.G : List Con := [dcon35]
def dg34.cut : Cuts := []
def dg34.keep : List Nat := [2, 3, 4, 5, 6, 24, 42, 60]
@[reducible] def dg34.A : List ATy := [.v dY31, .v dY29]
@[reducible] def dg34.R : List Ty := [(.int .i64), (.int .u64)]
noncomputable def dg34.N (N : Nat) (x : DenA dg34.A) : Option (DenR dg34.R) := fnR dg34.G dtt dg34.cut dg34.keep [2, 3] (fun _ _ => N) Tryd.f34 dg34.R false (encA dg34.A x)
theorem dg34.eq (N : Nat) (a0 : (Ty.den dY31)) (a1 : (Ty.den dY29)) : dg34.N N (a0, a1, ()) =
  bif (a0.2.1 == a1.2.1) then
    bif (decide (a0.1 > a1.1)) then
      Option.bind (dg35 (a0.1, a1.1, ())) fun y1 =>
      some ((0 : Int), y1)
    else
    bif (a0.1 == a1.1) then
      bif (decide (a0.2.1 > a1.2.1)) then
        Option.bind (dg35 (a0.2.1, a1.2.1, ())) fun y2 =>
        some ((1 : Int), y2)
      else
      bif (a0.2.1 == a1.2.1) then
        bif (decide (a0.1 < a1.1)) then
          Option.bind (dg35 (a0.1, a1.1, ())) fun y3 =>
          some ((2 : Int), y3)
        else
        bif (a0.1 == a1.1) then
          bif (decide (a0.2.1 < a1.2.1)) then
            Option.bind (dg35 (a0.2.1, a1.2.1, ())) fun y4 =>
            some ((3 : Int), y4)
          else
          some ((0 : Int), (0 : Int))
        else
        some ((0 : Int), (0 : Int))
      else
      bif (a0.1 == a1.1) then
        bif (decide (a0.2.1 < a1.2.1)) then
          Option.bind (dg35 (a0.2.1, a1.2.1, ())) fun y5 =>
          some ((3 : Int), y5)
        else
        some ((0 : Int), (0 : Int))
      else
      some ((0 : Int), (0 : Int))
    else
    bif (a0.2.1 == a1.2.1) then
      bif (decide (a0.1 < a1.1)) then
        Option.bind (dg35 (a0.1, a1.1, ())) fun y6 =>
        some ((2 : Int), y6)
      else
      bif (a0.1 == a1.1) then
        bif (decide (a0.2.1 < a1.2.1)) then
          Option.bind (dg35 (a0.2.1, a1.2.1, ())) fun y7 =>
          some ((3 : Int), y7)
        else
        some ((0 : Int), (0 : Int))
      else
      some ((0 : Int), (0 : Int))
    else
    bif (a0.1 == a1.1) then
      bif (decide (a0.2.1 < a1.2.1)) then
        Option.bind (dg35 (a0.2.1, a1.2.1, ())) fun y8 =>
        some ((3 : Int), y8)
      else
      some ((0 : Int), (0 : Int))
    else
    some ((0 : Int), (0 : Int))
  else
  bif (a0.1 == a1.1) then
    bif (decide (a0.2.1 > a1.2.1)) then
      Option.bind (dg35 (a0.2.1, a1.2.1, ())) fun y9 =>
      some ((1 : Int), y9)
    else
    bif (a0.2.1 == a1.2.1) then
      bif (decide (a0.1 < a1.1)) then
        Option.bind (dg35 (a0.1, a1.1, ())) fun y10 =>
        some ((2 : Int), y10)
      else
      bif (a0.1 == a1.1) then
        bif (decide (a0.2.1 < a1.2.1)) then
          Option.bind (dg35 (a0.2.1, a1.2.1, ())) fun y11 =>
          some ((3 : Int), y11)
        else
        some ((0 : Int), (0 : Int))
      else
      some ((0 : Int), (0 : Int))
    else
    bif (a0.1 == a1.1) then
      bif (decide (a0.2.1 < a1.2.1)) then
        Option.bind (dg35 (a0.2.1, a1.2.1, ())) fun y12 =>
        some ((3 : Int), y12)
      else
      some ((0 : Int), (0 : Int))
    else
    some ((0 : Int), (0 : Int))
  else
  bif (a0.2.1 == a1.2.1) then
    bif (decide (a0.1 < a1.1)) then
      Option.bind (dg35 (a0.1, a1.1, ())) fun y13 =>
      some ((2 : Int), y13)
    else
    bif (a0.1 == a1.1) then
      bif (decide (a0.2.1 < a1.2.1)) then
        Option.bind (dg35 (a0.2.1, a1.2.1, ())) fun y14 =>
        some ((3 : Int), y14)
      else
      some ((0 : Int), (0 : Int))
    else
    some ((0 : Int), (0 : Int))
  else
  bif (a0.1 == a1.1) then
    bif (decide (a0.2.1 < a1.2.1)) then
      Option.bind (dg35 (a0.2.1, a1.2.1, ())) fun y15 =>
      some ((3 : Int), y15)
    else
    some ((0 : Int), (0 : Int))
  else
  some ((0 : Int), (0 : Int)) := by kernel_rfl
noncomputable def dg34 (x : DenA dg34.A) : Option (DenR dg34.R) := dg34.N BIG x
noncomputable def dcon34 : Con := ⟨34, dg34.A, dg34.R, false, dg34, none⟩
theorem dsound34 : SoundC Tryd.prog Jd dcon34 :=
  sound_of (Γ := dg34.G) (tt := dtt) (cut := dg34.cut) (keep := dg34.keep) (boxes := [2, 3]) dcon34 Tryd.f34 (fu := fun _ _ _ => BIG) dtt_ok Jd_keeps ((consS dsound35 noneS)) dmixed (by kernel_rfl) (by kernel_rfl) fun x r h => Eq.trans (b := Con.fn dcon34 x) (by kernel_rfl) h
/-! swarf/interpolate.isArc -/
noncomputable def dg33.G : List Con := []
def dg33.cut : Cuts := []
def dg33.keep : List Nat := [1, 2]
@[reducible] def dg33.A : List ATy := [.v dY47]
@[reducible] def dg33.R : List Ty := [.bool]
noncomputable def dg33.N (N : Nat) (x : DenA dg33.A) : Option (DenR dg33.R) := fnR dg33.G dtt dg33.cut dg33.keep [1] (fun _ _ => N) Tryd.f33 dg33.R false (encA dg33.A x)
theorem dg33.eq (N : Nat) (a0 : (Ty.den dY47)) : dg33.N N (a0, ()) =
  bif (a0.1 == (3 : Int)) then
    some true
  else
  some (a0.1 == (4 : Int)) := by kernel_rfl
noncomputable def dg33 (x : DenA dg33.A) : Option (DenR dg33.R) := dg33.N BIG x
noncomputable def dcon33 : Con := ⟨33, dg33.A, dg33.R, false, dg33, none⟩
theorem dsound33 : SoundC Tryd.prog Jd dcon33 :=
  sound_of (Γ := dg33.G) (tt := dtt) (cut := dg33.cut) (keep := dg33.keep) (boxes := [1]) dcon33 Tryd.f33 (fu := fun _ _ _ => BIG) dtt_ok Jd_keeps (noneS) dmixed (by kernel_rfl) (by kernel_rfl) fun x r h => Eq.trans (b := Con.fn dcon33 x) (by kernel_rfl) h
/-! swarf/interpolate.right -/
noncomputable def dg32.G : List Con := [dcon34, dcon33]
def dg32.cut : Cuts := []
def dg32.keep : List Nat := [2, 3, 4, 6, 8, 10, 11, 16]
@[reducible] def dg32.A : List ATy := [.v dY31, .v dY47]
@[reducible] def dg32.R : List Ty := [.bool]
noncomputable def dg32.N (N : Nat) (x : DenA dg32.A) : Option (DenR dg32.R) := fnR dg32.G dtt dg32.cut dg32.keep [2, 3] (fun _ _ => N) Tryd.f32 dg32.R false (encA dg32.A x)
theorem dg32.eq (N : Nat) (a0 : (Ty.den dY31)) (a1 : (Ty.den dY47)) : dg32.N N (a0, a1, ()) =
  bif (a1.1 == (1 : Int)) then
    some (a1.2.2.2.1 == (0 : Int))
  else
  bif (a1.1 == (2 : Int)) then
    some (decide (a1.2.2.2.1 > (0 : Int)))
  else
  Option.bind (dg34 (a0, a1.2.2.1, ())) fun y1 =>
  Option.bind (dg34 (a1.2.1, a1.2.2.1, ())) fun y2 =>
  Option.bind (dg33 (a1, ())) fun y3 =>
  bif y3 then
    bif (decide (a1.2.2.2.1 > (0 : Int))) then
      bif (decide (y1.2 > (0 : Int))) then
        some (y1.2 == y2.2)
      else
      some false
    else
    some false
  else
  some false := by kernel_rfl
noncomputable def dg32 (x : DenA dg32.A) : Option (DenR dg32.R) := dg32.N BIG x
noncomputable def dcon32 : Con := ⟨32, dg32.A, dg32.R, false, dg32, none⟩
theorem dsound32 : SoundC Tryd.prog Jd dcon32 :=
  sound_of (Γ := dg32.G) (tt := dtt) (cut := dg32.cut) (keep := dg32.keep) (boxes := [2, 3]) dcon32 Tryd.f32 (fu := fun _ _ _ => BIG) dtt_ok Jd_keeps ((consS dsound34 (consS dsound33 noneS))) dmixed (by kernel_rfl) (by kernel_rfl) fun x r h => Eq.trans (b := Con.fn dcon32 x) (by kernel_rfl) h
/-! swarf/interpolate.Valid -/
noncomputable def dg21.G : List Con := [dcon32, dcon33, dcon34, dcon35]
def dg21.cut : Cuts := [([1, 1, 1], [5], []), ([0, 1, 0, 1, 1, 1, 1], [81, 82, 83], [])]
def dg21.keep : List Nat := [2, 3, 4, 5, 7, 8, 10, 14, 32, 55, 81, 82, 83, 84, 89]
@[reducible] def dg21.A : List ATy := [.v dY31, .v dY47]
@[reducible] def dg21.R : List Ty := [(.int .i64)]
noncomputable def dg21.N (N : Nat) (x : DenA dg21.A) : Option (DenR dg21.R) := fnR dg21.G dtt dg21.cut dg21.keep [2, 3] (fun _ _ => N) Tryd.f21 dg21.R false (encA dg21.A x)
noncomputable def dg21.S0 (N : Nat) (x5 : (List Int)) : Option (DenR dg21.R) := fromSeq dg21.G dtt dg21.cut dg21.keep (fun _ _ => N) (codeOf Tryd.f21) (retK dtt Tryd.f21 dg21.R false) [1, 1, 1] [] ⟨[(5, .val ⟨(.sl (.int .i64)), x5⟩ true)], []⟩
noncomputable def dg21.L0 (N : Nat) (n : Nat) (x81 : (List Int)) (x82 : Int) (x83 : Int) : Option (DenR dg21.R) := fromLoop dg21.G dtt dg21.cut dg21.keep (fun _ _ => N) (codeOf Tryd.f21) (retK dtt Tryd.f21 dg21.R false) [1, 1, 1, 1, 0, 1, 0] [] n ⟨[(81, .val ⟨(.sl (.int .i64)), x81⟩ false), (82, .val ⟨(.int .i64), x82⟩ false), (83, .val ⟨(.int .i64), x83⟩ false)], []⟩
theorem dg21.eq (N : Nat) (a0 : (Ty.den dY31)) (a1 : (Ty.den dY47)) : dg21.N N (a0, a1, ()) =
  Option.bind (dg32 (a0, a1, ())) fun y1 =>
  bif (!y1) then
    some (1 : Int)
  else
  Option.bind (dg33 (a1, ())) fun y2 =>
  bif y2 then
    Option.bind (dg34 (a0, a1.2.2.1, ())) fun y3 =>
    bif (decide (y3.2 > (10000000 : Int))) then
      some (11 : Int)
    else
    Option.bind (dg35 (a1.2.2.1.1, (0 : Int), ())) fun y4 =>
    bif (decide (y4 > (10000000 : Int))) then
      some (11 : Int)
    else
    Option.bind (dg35 (a1.2.2.1.2.1, (0 : Int), ())) fun y5 =>
    bif (decide (y5 > (10000000 : Int))) then
      some (11 : Int)
    else
    bif (decide (List.length [a0.1, a0.2.1, a0.2.2.1, a1.2.1.1, a1.2.1.2.1, a1.2.1.2.2.1] + List.length ([(IntKind.i64.wrap (a1.2.2.1.1 + (IntKind.i64.wrap y3.2))), (IntKind.i64.wrap (a1.2.2.1.1 - (IntKind.i64.wrap y3.2))), (IntKind.i64.wrap (a1.2.2.1.2.1 + (IntKind.i64.wrap y3.2))), (IntKind.i64.wrap (a1.2.2.1.2.1 - (IntKind.i64.wrap y3.2)))] : (List Int)) ≤ most)) then
      dg21.S0 N ([a0.1, a0.2.1, a0.2.2.1, a1.2.1.1, a1.2.1.2.1, a1.2.1.2.2.1] ++ ([(IntKind.i64.wrap (a1.2.2.1.1 + (IntKind.i64.wrap y3.2))), (IntKind.i64.wrap (a1.2.2.1.1 - (IntKind.i64.wrap y3.2))), (IntKind.i64.wrap (a1.2.2.1.2.1 + (IntKind.i64.wrap y3.2))), (IntKind.i64.wrap (a1.2.2.1.2.1 - (IntKind.i64.wrap y3.2)))] : (List Int)))
    else
    none
  else
  dg21.S0 N [a0.1, a0.2.1, a0.2.2.1, a1.2.1.1, a1.2.1.2.1, a1.2.1.2.2.1] := by kernel_rfl
theorem dg21.S0_eqN (N : Nat)  (x5 : (List Int)) : dg21.S0 (N + 1)  x5 =
  dg21.L0 (N + 1) (N + 1) x5 ((List.length x5 : Nat) : Int) (0 : Int) := by kernel_rfl
theorem dg21.S0_eq  (x5 : (List Int)) : dg21.S0 BIG  x5 =
  dg21.L0 BIG BIG x5 ((List.length x5 : Nat) : Int) (0 : Int) := dg21.S0_eqN 18446744073709551615  x5
theorem dg21.L0_eq (N : Nat)  (n : Nat) (x81 : (List Int)) (x82 : Int) (x83 : Int) : dg21.L0 N  (n + 1) x81 x82 x83 =
  bif (decide (x83 < x82)) then
    Option.bind (idx x81 x83) fun r6 =>
    Option.bind (dg35 (r6, (0 : Int), ())) fun y7 =>
    bif (decide (y7 > (10000000 : Int))) then
      some (11 : Int)
    else
    dg21.L0 N n x81 x82 (IntKind.i64.wrap (x83 + (1 : Int)))
  else
  some (0 : Int) := by kernel_rfl
theorem dg21.L0_zero (N : Nat) (x81 : (List Int)) (x82 : Int) (x83 : Int) : dg21.L0 N  0 x81 x82 x83 = none := by kernel_rfl
noncomputable def dg21 (x : DenA dg21.A) : Option (DenR dg21.R) := dg21.N BIG x
noncomputable def dcon21 : Con := ⟨21, dg21.A, dg21.R, false, dg21, none⟩
theorem dsound21 : SoundC Tryd.prog Jd dcon21 :=
  sound_of (Γ := dg21.G) (tt := dtt) (cut := dg21.cut) (keep := dg21.keep) (boxes := [2, 3]) dcon21 Tryd.f21 (fu := fun _ _ _ => BIG) dtt_ok Jd_keeps ((consS dsound32 (consS dsound33 (consS dsound34 (consS dsound35 noneS))))) dmixed (by kernel_rfl) (by kernel_rfl) fun x r h => Eq.trans (b := Con.fn dcon21 x) (by kernel_rfl) h
/-! swarf/swarflaw35.DrillPeck -/
noncomputable def dg6.G : List Con := [dcon8, dcon19, dcon20, dcon14, dcon21]
def dg6.cut : Cuts := [([0, 1, 0, 1, 1, 1, 1, 1, 1], [3, 4, 8, 11, 56, 57, 58], [3, 4, 11]), ([1, 1, 1, 1, 1, 1], [4, 8, 11], [4, 11])]
def dg6.keep : List Nat := [3, 4, 5, 6, 7, 8, 9, 10, 11, 13, 15, 48, 56, 57, 58, 59, 81]
@[reducible] def dg6.A : List ATy := [.v dY29, .v dY31, .v dY32]
@[reducible] def dg6.R : List Ty := [.bool]
noncomputable def dg6.N (N : Nat) (x : DenA dg6.A) : Option (DenR dg6.R) := fnR dg6.G dtt dg6.cut dg6.keep [3, 4, 5, 11, 13] (fun _ _ => N) Tryd.f6 dg6.R false (encA dg6.A x)
noncomputable def dg6.L0 (N : Nat) (n : Nat) (x8 : Int) (x56 : (List (Ty.den dY47))) (x57 : Int) (x58 : Int) (b3 : (Ty.den dY29)) (b4 : (Ty.den dY31)) (b11 : (Ty.den dY31)) : Option (DenR dg6.R) := fromLoop dg6.G dtt dg6.cut dg6.keep (fun _ _ => N) (codeOf Tryd.f6) (retK dtt Tryd.f6 dg6.R false) [1, 1, 1, 1, 1, 1, 0, 1, 0] [] n ⟨[(3, .ref 3 0), (4, .ref 4 0), (8, .val ⟨(.int .i64), x8⟩ false), (11, .ref 11 0), (56, .val ⟨(.sl dY47), x56⟩ false), (57, .val ⟨(.int .i64), x57⟩ false), (58, .val ⟨(.int .i64), x58⟩ false)], [(3, ⟨dY29, b3, []⟩), (4, ⟨dY31, b4, []⟩), (11, ⟨dY31, b11, []⟩)]⟩
noncomputable def dg6.S0 (N : Nat) (x8 : Int) (b4 : (Ty.den dY31)) (b11 : (Ty.den dY31)) : Option (DenR dg6.R) := fromSeq dg6.G dtt dg6.cut dg6.keep (fun _ _ => N) (codeOf Tryd.f6) (retK dtt Tryd.f6 dg6.R false) [1, 1, 1, 1, 1, 1] [] ⟨[(4, .ref 4 0), (8, .val ⟨(.int .i64), x8⟩ false), (11, .ref 11 0)], [(4, ⟨dY31, b4, []⟩), (11, ⟨dY31, b11, []⟩)]⟩
theorem dg6.eq (N : Nat) (a0 : (Ty.den dY29)) (a1 : (Ty.den dY31)) (a2 : (Ty.den dY32)) : dg6.N N (a0, a1, a2, ()) =
  Option.bind (dg8 ()) fun y1 =>
  bif (!y1) then
    some false
  else
  Option.bind (dg19 (a0, a1.1, a1.2.1, a1.2.2.1, a2, ())) fun y2 =>
  Option.bind (dg20 (a0, a1.1, a1.2.1, a1.2.2.1, a2, ())) fun y3 =>
  bif (y2.2 != y3.2) then
    some false
  else
  Option.bind (dg14 (y2.1, y3.1, ())) fun y4 =>
  bif (!y4) then
    some false
  else
  dg6.L0 N N y2.2 y2.1 ((List.length y2.1 : Nat) : Int) (0 : Int) a0 a1 (a0.1, a0.2.1, a1.1, ()) := by kernel_rfl
theorem dg6.L0_eq (N : Nat)  (n : Nat) (x8 : Int) (x56 : (List (Ty.den dY47))) (x57 : Int) (x58 : Int) (b3 : (Ty.den dY29)) (b4 : (Ty.den dY31)) (b11 : (Ty.den dY31)) : dg6.L0 N  (n + 1) x8 x56 x57 x58 b3 b4 b11 =
  bif (decide (x58 < x57)) then
    Option.bind (idx x56 x58) fun r5 =>
    bif (r5.2.1.1 != b3.1) then
      some false
    else
    bif (r5.2.1.2.1 != b3.2.1) then
      some false
    else
    Option.bind (dg21 (b11, r5, ())) fun y6 =>
    bif (y6 != (0 : Int)) then
      some false
    else
    dg6.L0 N n x8 x56 x57 (IntKind.i64.wrap (x58 + (1 : Int))) b3 b4 r5.2.1
  else
  dg6.S0 N x8 b4 b11 := by kernel_rfl
theorem dg6.L0_zero (N : Nat) (x8 : Int) (x56 : (List (Ty.den dY47))) (x57 : Int) (x58 : Int) (b3 : (Ty.den dY29)) (b4 : (Ty.den dY31)) (b11 : (Ty.den dY31)) : dg6.L0 N  0 x8 x56 x57 x58 b3 b4 b11 = none := by kernel_rfl
theorem dg6.S0_eqN (N : Nat)  (x8 : Int) (b4 : (Ty.den dY31)) (b11 : (Ty.den dY31)) : dg6.S0 (N + 1)  x8 b4 b11 =
  bif (x8 != (0 : Int)) then
    some true
  else
  some (b11.2.2.1 == b4.1) := by kernel_rfl
theorem dg6.S0_eq  (x8 : Int) (b4 : (Ty.den dY31)) (b11 : (Ty.den dY31)) : dg6.S0 BIG  x8 b4 b11 =
  bif (x8 != (0 : Int)) then
    some true
  else
  some (b11.2.2.1 == b4.1) := dg6.S0_eqN 18446744073709551615  x8 b4 b11
noncomputable def dg6 (x : DenA dg6.A) : Option (DenR dg6.R) := dg6.N BIG x
noncomputable def dcon6 : Con := ⟨6, dg6.A, dg6.R, false, dg6, none⟩
theorem dsound6 : SoundC Tryd.prog Jd dcon6 :=
  sound_of (Γ := dg6.G) (tt := dtt) (cut := dg6.cut) (keep := dg6.keep) (boxes := [3, 4, 5, 11, 13]) dcon6 Tryd.f6 (fu := fun _ _ _ => BIG) dtt_ok Jd_keeps ((consS dsound8 (consS dsound19 (consS dsound20 (consS dsound14 (consS dsound21 noneS)))))) dmixed (by kernel_rfl) (by kernel_rfl) fun x r h => Eq.trans (b := Con.fn dcon6 x) (by kernel_rfl) h
end Go.Ev
