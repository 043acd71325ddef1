/-
  PRINTED by the generator of this repo (wip/gen/gen.py): functions of the program as plain Lean functions, with an equation for each part and the proof that the Go calls do what they tell.
-/
import Derived.Test.YteiifpiainmgkaaDoorGenF
import Derived.Test.YteiifpiainmgkaaDoorProg
import Derived.KernelRfl
namespace Go.Ev
open Go Go.Proofs
set_option linter.unusedVariables false
/-! swarf/swarfref35.Match -/
noncomputable def dg17.G : List Con := [dcon29]
def dg17.cut : Cuts := [([0, 1, 0, 1, 1], [0, 1, 2, 9], []), ([1, 0, 0, 1, 0, 1, 1], [0, 1, 2, 9], []), ([1, 1], [0, 1, 2], []), ([0, 1, 0, 1, 1, 1, 1], [0, 1, 2, 10, 11], []), ([1, 0, 0, 1, 0, 1, 1, 1, 1], [0, 1, 2, 10, 11], []), ([1, 1, 1, 1], [10], [])]
def dg17.keep : List Nat := [0, 1, 2, 6, 7, 8, 9, 10, 11, 17, 21, 47, 52, 94, 97]
@[reducible] def dg17.A : List ATy := [.v (.sl dY32), .v (.int .i64), .v (.int .i64)]
@[reducible] def dg17.R : List Ty := [(.int .i64), .bool, (.int .i64)]
noncomputable def dg17.N (N : Nat) (x : DenA dg17.A) : Option (DenR dg17.R) := fnR dg17.G dtt dg17.cut dg17.keep [] (fun _ _ => N) Tryd.f17 dg17.R false (encA dg17.A x)
noncomputable def dg17.L0 (N : Nat) (n : Nat) (x0 : (List (Ty.den dY32))) (x1 : Int) (x2 : Int) (x9 : Int) : Option (DenR dg17.R) := fromLoop dg17.G dtt dg17.cut dg17.keep (fun _ _ => N) (codeOf Tryd.f17) (retK dtt Tryd.f17 dg17.R false) [1, 1, 0, 1, 0] [] n ⟨[(0, .val ⟨(.sl dY32), x0⟩ false), (1, .val ⟨(.int .i64), x1⟩ false), (2, .val ⟨(.int .i64), x2⟩ false), (9, .val ⟨(.int .i64), x9⟩ false)], []⟩
noncomputable def dg17.S0 (N : Nat) (n0 : Nat) (x0 : (List (Ty.den dY32))) (x1 : Int) (x2 : Int) (x9 : Int) : Option (DenR dg17.R) := fromSeq dg17.G dtt dg17.cut dg17.keep (fun _ _ => N) (codeOf Tryd.f17) (retK dtt Tryd.f17 dg17.R false) [1, 1, 0, 1, 0, 0, 1] [n0] ⟨[(0, .val ⟨(.sl dY32), x0⟩ false), (1, .val ⟨(.int .i64), x1⟩ false), (2, .val ⟨(.int .i64), x2⟩ false), (9, .val ⟨(.int .i64), x9⟩ false)], []⟩
noncomputable def dg17.S1 (N : Nat) (x0 : (List (Ty.den dY32))) (x1 : Int) (x2 : Int) : Option (DenR dg17.R) := fromSeq dg17.G dtt dg17.cut dg17.keep (fun _ _ => N) (codeOf Tryd.f17) (retK dtt Tryd.f17 dg17.R false) [1, 1] [] ⟨[(0, .val ⟨(.sl dY32), x0⟩ false), (1, .val ⟨(.int .i64), x1⟩ false), (2, .val ⟨(.int .i64), x2⟩ false)], []⟩
noncomputable def dg17.L1 (N : Nat) (n : Nat) (x0 : (List (Ty.den dY32))) (x1 : Int) (x2 : Int) (x10 : Int) (x11 : Int) : Option (DenR dg17.R) := fromLoop dg17.G dtt dg17.cut dg17.keep (fun _ _ => N) (codeOf Tryd.f17) (retK dtt Tryd.f17 dg17.R false) [1, 1, 1, 1, 0, 1, 0] [] n ⟨[(0, .val ⟨(.sl dY32), x0⟩ false), (1, .val ⟨(.int .i64), x1⟩ false), (2, .val ⟨(.int .i64), x2⟩ false), (10, .val ⟨(.int .i64), x10⟩ false), (11, .val ⟨(.int .i64), x11⟩ false)], []⟩
noncomputable def dg17.S2 (N : Nat) (n0 : Nat) (x0 : (List (Ty.den dY32))) (x1 : Int) (x2 : Int) (x10 : Int) (x11 : Int) : Option (DenR dg17.R) := fromSeq dg17.G dtt dg17.cut dg17.keep (fun _ _ => N) (codeOf Tryd.f17) (retK dtt Tryd.f17 dg17.R false) [1, 1, 1, 1, 0, 1, 0, 0, 1] [n0] ⟨[(0, .val ⟨(.sl dY32), x0⟩ false), (1, .val ⟨(.int .i64), x1⟩ false), (2, .val ⟨(.int .i64), x2⟩ false), (10, .val ⟨(.int .i64), x10⟩ false), (11, .val ⟨(.int .i64), x11⟩ false)], []⟩
noncomputable def dg17.S3 (N : Nat) (x10 : Int) : Option (DenR dg17.R) := fromSeq dg17.G dtt dg17.cut dg17.keep (fun _ _ => N) (codeOf Tryd.f17) (retK dtt Tryd.f17 dg17.R false) [1, 1, 1, 1] [] ⟨[(10, .val ⟨(.int .i64), x10⟩ false)], []⟩
theorem dg17.eq (N : Nat) (a0 : (List (Ty.den dY32))) (a1 : Int) (a2 : Int) : dg17.N N (a0, a1, a2, ()) =
  bif (decide (a1 ≤ (0 : Int))) then
    some ((0 : Int), false, (1 : Int))
  else
  bif (decide (a2 ≤ (0 : Int))) then
    some ((0 : Int), false, (1 : Int))
  else
  dg17.L0 N N a0 a1 a2 (0 : Int) := by kernel_rfl
theorem dg17.L0_eq (N : Nat)  (n : Nat) (x0 : (List (Ty.den dY32))) (x1 : Int) (x2 : Int) (x9 : Int) : dg17.L0 N  (n + 1) x0 x1 x2 x9 =
  bif (decide (x9 < ((List.length x0 : Nat) : Int))) then
    Option.bind (idx x0 x9) fun r1 =>
    bif (r1.2.1 == (2 : Int)) then
      Option.bind (idx x0 x9) fun r2 =>
      bif (r2.2.2.1 == x1) then
        Option.bind (idx x0 x9) fun r3 =>
        bif (decide (r3.2.2.2.1 ≥ x2)) then
          some (x9, true, (0 : Int))
        else
        dg17.S0 N n x0 x1 x2 x9
      else
      dg17.S0 N n x0 x1 x2 x9
    else
    dg17.S0 N n x0 x1 x2 x9
  else
  dg17.S1 N x0 x1 x2 := by kernel_rfl
theorem dg17.L0_zero (N : Nat) (x0 : (List (Ty.den dY32))) (x1 : Int) (x2 : Int) (x9 : Int) : dg17.L0 N  0 x0 x1 x2 x9 = none := by kernel_rfl
theorem dg17.S0_eqN (N : Nat) (n0 : Nat) (x0 : (List (Ty.den dY32))) (x1 : Int) (x2 : Int) (x9 : Int) : dg17.S0 (N + 1) n0 x0 x1 x2 x9 =
  dg17.L0 (N + 1) n0 x0 x1 x2 (IntKind.i64.wrap (x9 + (1 : Int))) := by kernel_rfl
theorem dg17.S0_eq (n0 : Nat) (x0 : (List (Ty.den dY32))) (x1 : Int) (x2 : Int) (x9 : Int) : dg17.S0 BIG n0 x0 x1 x2 x9 =
  dg17.L0 BIG n0 x0 x1 x2 (IntKind.i64.wrap (x9 + (1 : Int))) := dg17.S0_eqN 18446744073709551615 n0 x0 x1 x2 x9
theorem dg17.S1_eqN (N : Nat)  (x0 : (List (Ty.den dY32))) (x1 : Int) (x2 : Int) : dg17.S1 (N + 1)  x0 x1 x2 =
  dg17.L1 (N + 1) (N + 1) x0 x1 x2 (-1 : Int) (0 : Int) := by kernel_rfl
theorem dg17.S1_eq  (x0 : (List (Ty.den dY32))) (x1 : Int) (x2 : Int) : dg17.S1 BIG  x0 x1 x2 =
  dg17.L1 BIG BIG x0 x1 x2 (-1 : Int) (0 : Int) := dg17.S1_eqN 18446744073709551615  x0 x1 x2
theorem dg17.L1_eq (N : Nat)  (n : Nat) (x0 : (List (Ty.den dY32))) (x1 : Int) (x2 : Int) (x10 : Int) (x11 : Int) : dg17.L1 N  (n + 1) x0 x1 x2 x10 x11 =
  bif (decide (x11 < ((List.length x0 : Nat) : Int))) then
    Option.bind (idx x0 x11) fun r4 =>
    bif (decide (r4.2.2.2.1 ≥ x2)) then
      Option.bind (idx x0 x11) fun r5 =>
      bif (decide (r5.2.2.1 > (0 : Int))) then
        Option.bind (idx x0 x11) fun r6 =>
        Option.bind (dg29 (r6, x1, ())) fun y7 =>
        bif y7 then
          bif (decide (x10 < (0 : Int))) then
            dg17.S2 N n x0 x1 x2 x11 x11
          else
          Option.bind (idx x0 x11) fun r8 =>
          Option.bind (idx x0 x10) fun r9 =>
          bif (decide (r8.2.2.1 > r9.2.2.1)) then
            dg17.S2 N n x0 x1 x2 x11 x11
          else
          dg17.S2 N n x0 x1 x2 x10 x11
        else
        dg17.S2 N n x0 x1 x2 x10 x11
      else
      dg17.S2 N n x0 x1 x2 x10 x11
    else
    dg17.S2 N n x0 x1 x2 x10 x11
  else
  dg17.S3 N x10 := by kernel_rfl
theorem dg17.L1_zero (N : Nat) (x0 : (List (Ty.den dY32))) (x1 : Int) (x2 : Int) (x10 : Int) (x11 : Int) : dg17.L1 N  0 x0 x1 x2 x10 x11 = none := by kernel_rfl
theorem dg17.S2_eqN (N : Nat) (n0 : Nat) (x0 : (List (Ty.den dY32))) (x1 : Int) (x2 : Int) (x10 : Int) (x11 : Int) : dg17.S2 (N + 1) n0 x0 x1 x2 x10 x11 =
  dg17.L1 (N + 1) n0 x0 x1 x2 x10 (IntKind.i64.wrap (x11 + (1 : Int))) := by kernel_rfl
theorem dg17.S2_eq (n0 : Nat) (x0 : (List (Ty.den dY32))) (x1 : Int) (x2 : Int) (x10 : Int) (x11 : Int) : dg17.S2 BIG n0 x0 x1 x2 x10 x11 =
  dg17.L1 BIG n0 x0 x1 x2 x10 (IntKind.i64.wrap (x11 + (1 : Int))) := dg17.S2_eqN 18446744073709551615 n0 x0 x1 x2 x10 x11
theorem dg17.S3_eqN (N : Nat)  (x10 : Int) : dg17.S3 (N + 1)  x10 =
  bif (decide (x10 < (0 : Int))) then
    some ((0 : Int), false, (16 : Int))
  else
  some (x10, false, (0 : Int)) := by kernel_rfl
theorem dg17.S3_eq  (x10 : Int) : dg17.S3 BIG  x10 =
  bif (decide (x10 < (0 : Int))) then
    some ((0 : Int), false, (16 : Int))
  else
  some (x10, false, (0 : Int)) := dg17.S3_eqN 18446744073709551615  x10
noncomputable def dg17 (x : DenA dg17.A) : Option (DenR dg17.R) := dg17.N BIG x
noncomputable def dcon17 : Con := ⟨17, dg17.A, dg17.R, false, dg17, none⟩
theorem dsound17 : SoundC Tryd.prog Jd dcon17 :=
  sound_of (Γ := dg17.G) (tt := dtt) (cut := dg17.cut) (keep := dg17.keep) (boxes := []) dcon17 Tryd.f17 (fu := fun _ _ _ => BIG) dtt_ok Jd_keeps ((consS dsound29 noneS)) dmixed (by kernel_rfl) (by kernel_rfl) fun x r h => Eq.trans (b := Con.fn dcon17 x) (by kernel_rfl) h
end Go.Ev
