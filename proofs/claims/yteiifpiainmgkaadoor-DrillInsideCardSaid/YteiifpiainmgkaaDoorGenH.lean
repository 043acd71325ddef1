/-
  PRINTED by the generator of this repo (wip/gen/gen.py): functions of the program as plain Lean functions, with an equation for each part and the proof that the Go calls do what they tell.
-/
import Derived.Test.YteiifpiainmgkaaDoorGenG
import Derived.Test.YteiifpiainmgkaaDoorProg
import Derived.KernelRfl
namespace Go.Ev
open Go Go.Proofs
set_option linter.unusedVariables false
/-! swarf/drill.Peck -/
noncomputable def dg19.G : List Con := [dcon25, dcon27, dcon9]
def dg19.cut : Cuts := [([0, 1, 0, 1, 1, 1, 1, 1], [1, 5, 9, 14, 73, 74, 75], [5, 9]), ([1, 1, 1, 1, 1], [14], [])]
def dg19.keep : List Nat := [1, 2, 3, 5, 9, 10, 11, 12, 13, 14, 16, 17, 38, 43, 71, 73, 74, 75, 76]
@[reducible] def dg19.A : List ATy := [.v dY29, .v (.int .i64), .v (.int .i64), .v (.int .i64), .v dY32]
@[reducible] def dg19.R : List Ty := [(.sl dY47), (.int .i64)]
noncomputable def dg19.N (N : Nat) (x : DenA dg19.A) : Option (DenR dg19.R) := fnR dg19.G dtt dg19.cut dg19.keep [5, 9] (fun _ _ => N) Tryd.f19 dg19.R false (encA dg19.A x)
noncomputable def dg19.L0 (N : Nat) (n : Nat) (x1 : Int) (x14 : (List (Ty.den dY47))) (x73 : (List Int)) (x74 : Int) (x75 : Int) (b5 : (Ty.den dY29)) (b9 : (Ty.den dY32)) : Option (DenR dg19.R) := fromLoop dg19.G dtt dg19.cut dg19.keep (fun _ _ => N) (codeOf Tryd.f19) (retK dtt Tryd.f19 dg19.R false) [1, 1, 1, 1, 1, 0, 1, 0] [] n ⟨[(1, .val ⟨(.int .i64), x1⟩ false), (5, .ref 5 0), (9, .ref 9 0), (14, .val ⟨(.sl dY47), x14⟩ true), (73, .val ⟨(.sl (.int .i64)), x73⟩ false), (74, .val ⟨(.int .i64), x74⟩ false), (75, .val ⟨(.int .i64), x75⟩ false)], [(5, ⟨dY29, b5, []⟩), (9, ⟨dY32, b9, []⟩)]⟩
noncomputable def dg19.S0 (N : Nat) (x14 : (List (Ty.den dY47))) : Option (DenR dg19.R) := fromSeq dg19.G dtt dg19.cut dg19.keep (fun _ _ => N) (codeOf Tryd.f19) (retK dtt Tryd.f19 dg19.R false) [1, 1, 1, 1, 1] [] ⟨[(14, .val ⟨(.sl dY47), x14⟩ true)], []⟩
theorem dg19.eq (N : Nat) (a0 : (Ty.den dY29)) (a1 : Int) (a2 : Int) (a3 : Int) (a4 : (Ty.den dY32)) : dg19.N N (a0, a1, a2, a3, a4, ()) =
  Option.bind (dg25 (a4, ())) fun y1 =>
  bif (y1 != (0 : Int)) then
    some ([], (1 : Int))
  else
  bif (a4.2.1 != (2 : Int)) then
    some ([], (1 : Int))
  else
  bif (decide (a1 < (0 : Int))) then
    some ([], (1 : Int))
  else
  bif (decide (a2 < (1 : Int))) then
    some ([], (1 : Int))
  else
  bif (decide (a3 < (1 : Int))) then
    some ([], (1 : Int))
  else
  bif (decide (a4.2.2.2.1 < a2)) then
    some ([], (16 : Int))
  else
  Option.bind (dg27 (a0.1, ())) fun y2 =>
  bif (!y2) then
    some ([], (11 : Int))
  else
  Option.bind (dg27 (a0.2.1, ())) fun y3 =>
  bif (!y3) then
    some ([], (11 : Int))
  else
  Option.bind (dg27 (a1, ())) fun y4 =>
  bif (!y4) then
    some ([], (11 : Int))
  else
  Option.bind (dg27 (a2, ())) fun y5 =>
  bif (!y5) then
    some ([], (11 : Int))
  else
  Option.bind (dg9 (a2, a3, ())) fun y6 =>
  bif (y6.2 != (0 : Int)) then
    some ([], y6.2)
  else
  dg19.L0 N N a1 [] y6.1 ((List.length y6.1 : Nat) : Int) (0 : Int) a0 a4 := by kernel_rfl
theorem dg19.L0_eq (N : Nat)  (n : Nat) (x1 : Int) (x14 : (List (Ty.den dY47))) (x73 : (List Int)) (x74 : Int) (x75 : Int) (b5 : (Ty.den dY29)) (b9 : (Ty.den dY32)) : dg19.L0 N  (n + 1) x1 x14 x73 x74 x75 b5 b9 =
  bif (decide (x75 < x74)) then
    Option.bind (idx x73 x75) fun r7 =>
    bif (decide (List.length x14 + List.length ([((2 : Int), (b5.1, b5.2.1, (IntKind.i64.wrap (0 - r7)), ()), ((0 : Int), (0 : Int), ()), b9.2.2.2.2.2.2.2.1, ()), ((1 : Int), (b5.1, b5.2.1, x1, ()), ((0 : Int), (0 : Int), ()), (0 : Int), ())] : (List (Ty.den dY47))) ≤ most)) then
      dg19.L0 N n x1 (x14 ++ ([((2 : Int), (b5.1, b5.2.1, (IntKind.i64.wrap (0 - r7)), ()), ((0 : Int), (0 : Int), ()), b9.2.2.2.2.2.2.2.1, ()), ((1 : Int), (b5.1, b5.2.1, x1, ()), ((0 : Int), (0 : Int), ()), (0 : Int), ())] : (List (Ty.den dY47)))) x73 x74 (IntKind.i64.wrap (x75 + (1 : Int))) b5 b9
    else
    none
  else
  dg19.S0 N x14 := by kernel_rfl
theorem dg19.L0_zero (N : Nat) (x1 : Int) (x14 : (List (Ty.den dY47))) (x73 : (List Int)) (x74 : Int) (x75 : Int) (b5 : (Ty.den dY29)) (b9 : (Ty.den dY32)) : dg19.L0 N  0 x1 x14 x73 x74 x75 b5 b9 = none := by kernel_rfl
theorem dg19.S0_eqN (N : Nat)  (x14 : (List (Ty.den dY47))) : dg19.S0 (N + 1)  x14 =
  some (x14, (0 : Int)) := by kernel_rfl
theorem dg19.S0_eq  (x14 : (List (Ty.den dY47))) : dg19.S0 BIG  x14 =
  some (x14, (0 : Int)) := dg19.S0_eqN 18446744073709551615  x14
noncomputable def dg19 (x : DenA dg19.A) : Option (DenR dg19.R) := dg19.N BIG x
noncomputable def dcon19 : Con := ⟨19, dg19.A, dg19.R, false, dg19, none⟩
theorem dsound19 : SoundC Tryd.prog Jd dcon19 :=
  sound_of (Γ := dg19.G) (tt := dtt) (cut := dg19.cut) (keep := dg19.keep) (boxes := [5, 9]) dcon19 Tryd.f19 (fu := fun _ _ _ => BIG) dtt_ok Jd_keeps ((consS dsound25 (consS dsound27 (consS dsound9 noneS)))) dmixed (by kernel_rfl) (by kernel_rfl) fun x r h => Eq.trans (b := Con.fn dcon19 x) (by kernel_rfl) h
/-! swarf/swarflaw35.DrillMatch -/
noncomputable def dg5.G : List Con := [dcon8, dcon16, dcon15, dcon17, dcon18, dcon19, dcon12]
def dg5.cut : Cuts := [([0, 1, 0, 1, 1], [0, 1, 2, 24, 25, 26], []), ([1, 1], [0, 1, 2], []), ([1, 1, 1, 1, 1, 1, 1, 1], [15], [])]
def dg5.keep : List Nat := [0, 1, 2, 6, 8, 9, 10, 11, 12, 13, 14, 15, 22, 24, 25, 26, 27, 37, 68, 94, 95]
@[reducible] def dg5.A : List ATy := [.v (.sl dY32), .v (.int .i64), .v (.int .i64)]
@[reducible] def dg5.R : List Ty := [.bool]
noncomputable def dg5.N (N : Nat) (x : DenA dg5.A) : Option (DenR dg5.R) := fnR dg5.G dtt dg5.cut dg5.keep [8] (fun _ _ => N) Tryd.f5 dg5.R false (encA dg5.A x)
noncomputable def dg5.L0 (N : Nat) (n : Nat) (x0 : (List (Ty.den dY32))) (x1 : Int) (x2 : Int) (x24 : (List (Ty.den dY32))) (x25 : Int) (x26 : Int) : Option (DenR dg5.R) := fromLoop dg5.G dtt dg5.cut dg5.keep (fun _ _ => N) (codeOf Tryd.f5) (retK dtt Tryd.f5 dg5.R false) [1, 1, 0, 1, 0] [] n ⟨[(0, .val ⟨(.sl dY32), x0⟩ false), (1, .val ⟨(.int .i64), x1⟩ false), (2, .val ⟨(.int .i64), x2⟩ false), (24, .val ⟨(.sl dY32), x24⟩ false), (25, .val ⟨(.int .i64), x25⟩ false), (26, .val ⟨(.int .i64), x26⟩ false)], []⟩
noncomputable def dg5.S0 (N : Nat) (x0 : (List (Ty.den dY32))) (x1 : Int) (x2 : Int) : Option (DenR dg5.R) := fromSeq dg5.G dtt dg5.cut dg5.keep (fun _ _ => N) (codeOf Tryd.f5) (retK dtt Tryd.f5 dg5.R false) [1, 1] [] ⟨[(0, .val ⟨(.sl dY32), x0⟩ false), (1, .val ⟨(.int .i64), x1⟩ false), (2, .val ⟨(.int .i64), x2⟩ false)], []⟩
noncomputable def dg5.S1 (N : Nat) (x15 : Int) : Option (DenR dg5.R) := fromSeq dg5.G dtt dg5.cut dg5.keep (fun _ _ => N) (codeOf Tryd.f5) (retK dtt Tryd.f5 dg5.R false) [1, 1, 1, 1, 1, 1, 1, 1] [] ⟨[(15, .val ⟨(.int .i64), x15⟩ false)], []⟩
theorem dg5.eq (N : Nat) (a0 : (List (Ty.den dY32))) (a1 : Int) (a2 : Int) : dg5.N N (a0, a1, a2, ()) =
  Option.bind (dg8 ()) fun y1 =>
  bif (!y1) then
    Option.bind (dg8 ()) fun y2 =>
    some y2
  else
  bif (decide (((List.length a0 : Nat) : Int) > (12 : Int))) then
    Option.bind (dg8 ()) fun y3 =>
    some y3
  else
  dg5.L0 N N a0 a1 a2 a0 ((List.length a0 : Nat) : Int) (0 : Int) := by kernel_rfl
theorem dg5.L0_eq (N : Nat)  (n : Nat) (x0 : (List (Ty.den dY32))) (x1 : Int) (x2 : Int) (x24 : (List (Ty.den dY32))) (x25 : Int) (x26 : Int) : dg5.L0 N  (n + 1) x0 x1 x2 x24 x25 x26 =
  bif (decide (x26 < x25)) then
    Option.bind (idx x24 x26) fun r4 =>
    bif (decide (r4.2.2.1 < (0 : Int))) then
      some true
    else
    bif (decide (r4.2.2.1 > (10000000 : Int))) then
      some true
    else
    dg5.L0 N n x0 x1 x2 x24 x25 (IntKind.i64.wrap (x26 + (1 : Int)))
  else
  dg5.S0 N x0 x1 x2 := by kernel_rfl
theorem dg5.L0_zero (N : Nat) (x0 : (List (Ty.den dY32))) (x1 : Int) (x2 : Int) (x24 : (List (Ty.den dY32))) (x25 : Int) (x26 : Int) : dg5.L0 N  0 x0 x1 x2 x24 x25 x26 = none := by kernel_rfl
theorem dg5.S0_eqN (N : Nat)  (x0 : (List (Ty.den dY32))) (x1 : Int) (x2 : Int) : dg5.S0 (N + 1)  x0 x1 x2 =
  Option.bind (dg16 (x0, ())) fun y5 =>
  Option.bind (dg15 (y5, x1, x2, ())) fun y6 =>
  Option.bind (dg17 (x0, x1, x2, ())) fun y7 =>
  bif (y6.1 != y7.1) then
    some false
  else
  bif (!(y6.2.1 == y7.2.1)) then
    some false
  else
  bif (y6.2.2 != y7.2.2) then
    some false
  else
  bif (y6.2.2 != (0 : Int)) then
    some true
  else
  Option.bind (idx x0 y6.1) fun r8 =>
  Option.bind (dg18 (r8, ())) fun y9 =>
  bif (y9 == false) then
    some true
  else
  bif (decide (x1 > (1000000 : Int))) then
    some true
  else
  bif (decide (x2 > (20000 : Int))) then
    some true
  else
  Option.bind (idx x0 y6.1) fun r10 =>
  bif (decide (r10.2.2.2.2.2.1 < (500 : Int))) then
    some true
  else
  bif y6.2.1 then
    Option.bind (idx x0 y6.1) fun r11 =>
    Option.bind (dg19 (((0 : Int), (0 : Int), ()), (1000 : Int), x2, x2, r11, ())) fun y12 =>
    dg5.S1 (N + 1) y12.2
  else
  Option.bind (idx x0 y6.1) fun r13 =>
  Option.bind (dg12 (((0 : Int), (0 : Int), ()), x1, (1000 : Int), x2, r13, ())) fun y14 =>
  dg5.S1 (N + 1) y14.2 := by kernel_rfl
theorem dg5.S0_eq  (x0 : (List (Ty.den dY32))) (x1 : Int) (x2 : Int) : dg5.S0 BIG  x0 x1 x2 =
  Option.bind (dg16 (x0, ())) fun y5 =>
  Option.bind (dg15 (y5, x1, x2, ())) fun y6 =>
  Option.bind (dg17 (x0, x1, x2, ())) fun y7 =>
  bif (y6.1 != y7.1) then
    some false
  else
  bif (!(y6.2.1 == y7.2.1)) then
    some false
  else
  bif (y6.2.2 != y7.2.2) then
    some false
  else
  bif (y6.2.2 != (0 : Int)) then
    some true
  else
  Option.bind (idx x0 y6.1) fun r8 =>
  Option.bind (dg18 (r8, ())) fun y9 =>
  bif (y9 == false) then
    some true
  else
  bif (decide (x1 > (1000000 : Int))) then
    some true
  else
  bif (decide (x2 > (20000 : Int))) then
    some true
  else
  Option.bind (idx x0 y6.1) fun r10 =>
  bif (decide (r10.2.2.2.2.2.1 < (500 : Int))) then
    some true
  else
  bif y6.2.1 then
    Option.bind (idx x0 y6.1) fun r11 =>
    Option.bind (dg19 (((0 : Int), (0 : Int), ()), (1000 : Int), x2, x2, r11, ())) fun y12 =>
    dg5.S1 BIG y12.2
  else
  Option.bind (idx x0 y6.1) fun r13 =>
  Option.bind (dg12 (((0 : Int), (0 : Int), ()), x1, (1000 : Int), x2, r13, ())) fun y14 =>
  dg5.S1 BIG y14.2 := dg5.S0_eqN 18446744073709551615  x0 x1 x2
theorem dg5.S1_eqN (N : Nat)  (x15 : Int) : dg5.S1 (N + 1)  x15 =
  some (x15 == (0 : Int)) := by kernel_rfl
theorem dg5.S1_eq  (x15 : Int) : dg5.S1 BIG  x15 =
  some (x15 == (0 : Int)) := dg5.S1_eqN 18446744073709551615  x15
noncomputable def dg5 (x : DenA dg5.A) : Option (DenR dg5.R) := dg5.N BIG x
noncomputable def dcon5 : Con := ⟨5, dg5.A, dg5.R, false, dg5, none⟩
theorem dsound5 : SoundC Tryd.prog Jd dcon5 :=
  sound_of (Γ := dg5.G) (tt := dtt) (cut := dg5.cut) (keep := dg5.keep) (boxes := [8]) dcon5 Tryd.f5 (fu := fun _ _ _ => BIG) dtt_ok Jd_keeps ((consS dsound8 (consS dsound16 (consS dsound15 (consS dsound17 (consS dsound18 (consS dsound19 (consS dsound12 noneS)))))))) dmixed (by kernel_rfl) (by kernel_rfl) fun x r h => Eq.trans (b := Con.fn dcon5 x) (by kernel_rfl) h
end Go.Ev
