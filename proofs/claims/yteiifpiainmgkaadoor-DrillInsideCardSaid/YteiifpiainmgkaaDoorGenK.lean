/-
  PRINTED by the generator of this repo (wip/gen/gen.py): functions of the program as plain Lean functions, with an equation for each part and the proof that the Go calls do what they tell.
-/
import Derived.Test.YteiifpiainmgkaaDoorGenJ
import Derived.Test.YteiifpiainmgkaaDoorProg
import Derived.KernelRfl
namespace Go.Ev
open Go Go.Proofs
set_option linter.unusedVariables false
/-! swarf/interpolate.Quarters -/
noncomputable def dg23.G : List Con := [dcon33, dcon21, dcon34]
def dg23.cut : Cuts := [([1, 1, 1, 1, 1, 1], [11], []), ([1, 1, 1, 1, 1, 1, 1], [11], [])]
def dg23.keep : List Nat := [2, 3, 4, 5, 6, 7, 9, 11, 14, 19, 41, 45]
@[reducible] def dg23.A : List ATy := [.v dY31, .v dY47]
@[reducible] def dg23.R : List Ty := [(.int .i64), (.int .i64)]
noncomputable def dg23.N (N : Nat) (x : DenA dg23.A) : Option (DenR dg23.R) := fnR dg23.G dtt dg23.cut dg23.keep [2, 3] (fun _ _ => N) Tryd.f23 dg23.R false (encA dg23.A x)
noncomputable def dg23.S0 (N : Nat) (x11 : Int) : Option (DenR dg23.R) := fromSeq dg23.G dtt dg23.cut dg23.keep (fun _ _ => N) (codeOf Tryd.f23) (retK dtt Tryd.f23 dg23.R false) [1, 1, 1, 1, 1, 1] [] ⟨[(11, .val ⟨(.int .i64), x11⟩ false)], []⟩
noncomputable def dg23.S1 (N : Nat) (x11 : Int) : Option (DenR dg23.R) := fromSeq dg23.G dtt dg23.cut dg23.keep (fun _ _ => N) (codeOf Tryd.f23) (retK dtt Tryd.f23 dg23.R false) [1, 1, 1, 1, 1, 1, 1] [] ⟨[(11, .val ⟨(.int .i64), x11⟩ false)], []⟩
theorem dg23.eq (N : Nat) (a0 : (Ty.den dY31)) (a1 : (Ty.den dY47)) : dg23.N N (a0, a1, ()) =
  Option.bind (dg33 (a1, ())) fun y1 =>
  bif (!y1) then
    some ((0 : Int), (1 : Int))
  else
  Option.bind (dg21 (a0, a1, ())) fun y2 =>
  bif (y2 != (0 : Int)) then
    some ((0 : Int), y2)
  else
  Option.bind (dg34 (a0, a1.2.2.1, ())) fun y3 =>
  Option.bind (dg34 (a1.2.1, a1.2.2.1, ())) fun y4 =>
  bif (a1.1 == (3 : Int)) then
    dg23.S0 N (IntKind.i64.wrap (0 - (IntKind.i64.wrap (y4.1 - y3.1))))
  else
  dg23.S0 N (IntKind.i64.wrap (y4.1 - y3.1)) := by kernel_rfl
theorem dg23.S0_eqN (N : Nat)  (x11 : Int) : dg23.S0 (N + 1)  x11 =
  bif (decide (x11 ≤ (0 : Int))) then
    dg23.S1 (N + 1) (IntKind.i64.wrap (x11 + (4 : Int)))
  else
  dg23.S1 (N + 1) x11 := by kernel_rfl
theorem dg23.S0_eq  (x11 : Int) : dg23.S0 BIG  x11 =
  bif (decide (x11 ≤ (0 : Int))) then
    dg23.S1 BIG (IntKind.i64.wrap (x11 + (4 : Int)))
  else
  dg23.S1 BIG x11 := dg23.S0_eqN 18446744073709551615  x11
theorem dg23.S1_eqN (N : Nat)  (x11 : Int) : dg23.S1 (N + 1)  x11 =
  some (x11, (0 : Int)) := by kernel_rfl
theorem dg23.S1_eq  (x11 : Int) : dg23.S1 BIG  x11 =
  some (x11, (0 : Int)) := dg23.S1_eqN 18446744073709551615  x11
noncomputable def dg23 (x : DenA dg23.A) : Option (DenR dg23.R) := dg23.N BIG x
noncomputable def dcon23 : Con := ⟨23, dg23.A, dg23.R, false, dg23, none⟩
theorem dsound23 : SoundC Tryd.prog Jd dcon23 :=
  sound_of (Γ := dg23.G) (tt := dtt) (cut := dg23.cut) (keep := dg23.keep) (boxes := [2, 3]) dcon23 Tryd.f23 (fu := fun _ _ _ => BIG) dtt_ok Jd_keeps ((consS dsound33 (consS dsound21 (consS dsound34 noneS)))) dmixed (by kernel_rfl) (by kernel_rfl) fun x r h => Eq.trans (b := Con.fn dcon23 x) (by kernel_rfl) h
/-! swarf/interpolate.Chords -/
noncomputable def dg41.G : List Con := []
def dg41.cut : Cuts := [([0, 0, 1, 1, 1, 1], [3, 4, 5], [])]
def dg41.keep : List Nat := [0, 2, 3, 4, 5, 6, 8, 15, 24]
@[reducible] def dg41.A : List ATy := [.v (.int .i64)]
@[reducible] def dg41.R : List Ty := [(.int .i64)]
noncomputable def dg41.N (N : Nat) (x : DenA dg41.A) : Option (DenR dg41.R) := fnR dg41.G dtt dg41.cut dg41.keep [] (fun _ _ => N) Tryd.f41 dg41.R false (encA dg41.A x)
noncomputable def dg41.L0 (N : Nat) (n : Nat) (x3 : Int) (x4 : Int) (x5 : Int) : Option (DenR dg41.R) := fromLoop dg41.G dtt dg41.cut dg41.keep (fun _ _ => N) (codeOf Tryd.f41) (retK dtt Tryd.f41 dg41.R false) [1, 1, 1, 1, 0, 0] [] n ⟨[(3, .val ⟨(.int .i64), x3⟩ false), (4, .val ⟨(.int .i64), x4⟩ false), (5, .val ⟨(.int .i64), x5⟩ false)], []⟩
theorem dg41.eq (N : Nat) (a0 : Int) : dg41.N N (a0, ()) =
  bif (decide (a0 ≤ (0 : Int))) then
    some (0 : Int)
  else
  dg41.L0 N N (IntKind.i64.wrap ((IntKind.i64.wrap (Int.tdiv (IntKind.i64.wrap (a0 - (1 : Int))) (10 : Int))) + (1 : Int))) (1 : Int) (1073741824 : Int) := by kernel_rfl
theorem dg41.L0_eq (N : Nat)  (n : Nat) (x3 : Int) (x4 : Int) (x5 : Int) : dg41.L0 N  (n + 1) x3 x4 x5 =
  bif (decide (x4 < x5)) then
    let v1 : Bool := (decide ((IntKind.i64.wrap ((IntKind.i64.wrap (Int.tdiv (IntKind.i64.wrap (x4 + x5)) (2 : Int))) * (IntKind.i64.wrap (Int.tdiv (IntKind.i64.wrap (x4 + x5)) (2 : Int))))) ≥ x3))
    bif v1 then
      dg41.L0 N n x3 x4 (IntKind.i64.wrap (Int.tdiv (IntKind.i64.wrap (x4 + x5)) (2 : Int)))
    else
    dg41.L0 N n x3 (IntKind.i64.wrap ((IntKind.i64.wrap (Int.tdiv (IntKind.i64.wrap (x4 + x5)) (2 : Int))) + (1 : Int))) x5
  else
  some x4 := by kernel_rfl
theorem dg41.L0_zero (N : Nat) (x3 : Int) (x4 : Int) (x5 : Int) : dg41.L0 N  0 x3 x4 x5 = none := by kernel_rfl
noncomputable def dg41 (x : DenA dg41.A) : Option (DenR dg41.R) := dg41.N BIG x
noncomputable def dcon41 : Con := ⟨41, dg41.A, dg41.R, false, dg41, none⟩
theorem dsound41 : SoundC Tryd.prog Jd dcon41 :=
  sound_of (Γ := dg41.G) (tt := dtt) (cut := dg41.cut) (keep := dg41.keep) (boxes := []) dcon41 Tryd.f41 (fu := fun _ _ _ => BIG) dtt_ok Jd_keeps (noneS) dmixed (by kernel_rfl) (by kernel_rfl) fun x r h => Eq.trans (b := Con.fn dcon41 x) (by kernel_rfl) h
/-! swarf/interpolate.turned -/
noncomputable def dg42.G : List Con := []
def dg42.cut : Cuts := [([0, 1, 0, 1], [0, 1, 9, 10], []), ([1], [0, 1], [])]
def dg42.keep : List Nat := [0, 1, 2, 6, 7, 9, 10, 11]
@[reducible] def dg42.A : List ATy := [.v (.int .i64), .v (.int .i64), .v (.int .i64)]
@[reducible] def dg42.R : List Ty := [(.int .i64), (.int .i64)]
noncomputable def dg42.N (N : Nat) (x : DenA dg42.A) : Option (DenR dg42.R) := fnR dg42.G dtt dg42.cut dg42.keep [] (fun _ _ => N) Tryd.f42 dg42.R false (encA dg42.A x)
noncomputable def dg42.L0 (N : Nat) (n : Nat) (x0 : Int) (x1 : Int) (x9 : Int) (x10 : Int) : Option (DenR dg42.R) := fromLoop dg42.G dtt dg42.cut dg42.keep (fun _ _ => N) (codeOf Tryd.f42) (retK dtt Tryd.f42 dg42.R false) [1, 0, 1, 0] [] n ⟨[(0, .val ⟨(.int .i64), x0⟩ false), (1, .val ⟨(.int .i64), x1⟩ false), (9, .val ⟨(.int .i64), x9⟩ false), (10, .val ⟨(.int .i64), x10⟩ false)], []⟩
noncomputable def dg42.S0 (N : Nat) (x0 : Int) (x1 : Int) : Option (DenR dg42.R) := fromSeq dg42.G dtt dg42.cut dg42.keep (fun _ _ => N) (codeOf Tryd.f42) (retK dtt Tryd.f42 dg42.R false) [1] [] ⟨[(0, .val ⟨(.int .i64), x0⟩ false), (1, .val ⟨(.int .i64), x1⟩ false)], []⟩
theorem dg42.eq (N : Nat) (a0 : Int) (a1 : Int) (a2 : Int) : dg42.N N (a0, a1, a2, ()) =
  dg42.L0 N N a0 a1 (IntKind.i64.wrap ((BitVec.ofInt IntKind.i64.bits a2 &&& BitVec.ofInt IntKind.i64.bits (3 : Int)).toNat : Int)) (0 : Int) := by kernel_rfl
theorem dg42.L0_eq (N : Nat)  (n : Nat) (x0 : Int) (x1 : Int) (x9 : Int) (x10 : Int) : dg42.L0 N  (n + 1) x0 x1 x9 x10 =
  bif (decide (x10 < x9)) then
    dg42.L0 N n (IntKind.i64.wrap (0 - x1)) x0 x9 (IntKind.i64.wrap (x10 + (1 : Int)))
  else
  dg42.S0 N x0 x1 := by kernel_rfl
theorem dg42.L0_zero (N : Nat) (x0 : Int) (x1 : Int) (x9 : Int) (x10 : Int) : dg42.L0 N  0 x0 x1 x9 x10 = none := by kernel_rfl
theorem dg42.S0_eqN (N : Nat)  (x0 : Int) (x1 : Int) : dg42.S0 (N + 1)  x0 x1 =
  some (x0, x1) := by kernel_rfl
theorem dg42.S0_eq  (x0 : Int) (x1 : Int) : dg42.S0 BIG  x0 x1 =
  some (x0, x1) := dg42.S0_eqN 18446744073709551615  x0 x1
noncomputable def dg42 (x : DenA dg42.A) : Option (DenR dg42.R) := dg42.N BIG x
noncomputable def dcon42 : Con := ⟨42, dg42.A, dg42.R, false, dg42, none⟩
theorem dsound42 : SoundC Tryd.prog Jd dcon42 :=
  sound_of (Γ := dg42.G) (tt := dtt) (cut := dg42.cut) (keep := dg42.keep) (boxes := []) dcon42 Tryd.f42 (fu := fun _ _ _ => BIG) dtt_ok Jd_keeps (noneS) dmixed (by kernel_rfl) (by kernel_rfl) fun x r h => Eq.trans (b := Con.fn dcon42 x) (by kernel_rfl) h
/-! swarf/interpolate.floor -/
noncomputable def dg43.G : List Con := []
def dg43.cut : Cuts := []
def dg43.keep : List Nat := [0, 1, 4, 5, 12]
@[reducible] def dg43.A : List ATy := [.v (.int .i64), .v (.int .i64)]
@[reducible] def dg43.R : List Ty := [(.int .i64)]
noncomputable def dg43.N (N : Nat) (x : DenA dg43.A) : Option (DenR dg43.R) := fnR dg43.G dtt dg43.cut dg43.keep [] (fun _ _ => N) Tryd.f43 dg43.R false (encA dg43.A x)
theorem dg43.eq (N : Nat) (a0 : Int) (a1 : Int) : dg43.N N (a0, a1, ()) =
  bif (a1 == 0) then
    none
  else
  bif (a1 == 0) then
    none
  else
  bif (decide ((Int.tmod a0 a1) < (0 : Int))) then
    some (IntKind.i64.wrap ((IntKind.i64.wrap (Int.tdiv a0 a1)) - (1 : Int)))
  else
  some (IntKind.i64.wrap (Int.tdiv a0 a1)) := by kernel_rfl
noncomputable def dg43 (x : DenA dg43.A) : Option (DenR dg43.R) := dg43.N BIG x
noncomputable def dcon43 : Con := ⟨43, dg43.A, dg43.R, false, dg43, none⟩
theorem dsound43 : SoundC Tryd.prog Jd dcon43 :=
  sound_of (Γ := dg43.G) (tt := dtt) (cut := dg43.cut) (keep := dg43.keep) (boxes := []) dcon43 Tryd.f43 (fu := fun _ _ _ => BIG) dtt_ok Jd_keeps (noneS) dmixed (by kernel_rfl) (by kernel_rfl) fun x r h => Eq.trans (b := Con.fn dcon43 x) (by kernel_rfl) h
/-! swarf/interpolate.Arc -/
noncomputable def dg40.G : List Con := [dcon23, dcon34, dcon41, dcon42, dcon43]
def dg40.cut : Cuts := [([0, 1, 0, 1, 1, 1, 1, 1, 1, 1, 1, 1], [2, 3, 8, 10, 11, 12, 13, 44, 45], [2, 3]), ([0, 1, 1, 0, 0, 1, 1, 0, 0, 1, 0, 1, 1, 1, 1, 1, 1, 1, 1, 1], [2, 3, 8, 10, 11, 12, 13, 14, 15, 44, 45], [2, 3]), ([1, 1, 1, 1, 1, 1, 1, 1, 1], [13], []), ([1, 0, 0, 1, 0, 0, 1, 1, 0, 0, 1, 1, 0, 0, 1, 0, 1, 1, 1, 1, 1, 1, 1, 1, 1], [2, 3, 8, 10, 11, 12, 13, 14, 15, 16, 17, 44, 45], [2, 3])]
def dg40.keep : List Nat := [2, 3, 4, 5, 6, 7, 8, 9, 10, 11, 12, 13, 14, 15, 16, 17, 18, 26, 43, 44, 45, 46, 50, 86]
@[reducible] def dg40.A : List ATy := [.v dY31, .v dY47]
@[reducible] def dg40.R : List Ty := [(.sl dY31), (.int .i64)]
noncomputable def dg40.N (N : Nat) (x : DenA dg40.A) : Option (DenR dg40.R) := fnR dg40.G dtt dg40.cut dg40.keep [2, 3] (fun _ _ => N) Tryd.f40 dg40.R false (encA dg40.A x)
noncomputable def dg40.L0 (N : Nat) (n : Nat) (x8 : Int) (x10 : Int) (x11 : Int) (x12 : Int) (x13 : (List (Ty.den dY31))) (x44 : Int) (x45 : Int) (b2 : (Ty.den dY31)) (b3 : (Ty.den dY47)) : Option (DenR dg40.R) := fromLoop dg40.G dtt dg40.cut dg40.keep (fun _ _ => N) (codeOf Tryd.f40) (retK dtt Tryd.f40 dg40.R false) [1, 1, 1, 1, 1, 1, 1, 1, 1, 0, 1, 0] [] n ⟨[(2, .ref 2 0), (3, .ref 3 0), (8, .val ⟨(.int .i64), x8⟩ false), (10, .val ⟨(.int .i64), x10⟩ false), (11, .val ⟨(.int .i64), x11⟩ false), (12, .val ⟨(.int .i64), x12⟩ false), (13, .val ⟨(.sl dY31), x13⟩ true), (44, .val ⟨(.int .i64), x44⟩ false), (45, .val ⟨(.int .i64), x45⟩ false)], [(2, ⟨dY31, b2, []⟩), (3, ⟨dY47, b3, []⟩)]⟩
noncomputable def dg40.L1 (N : Nat) (n0 : Nat) (n : Nat) (x8 : Int) (x10 : Int) (x11 : Int) (x12 : Int) (x13 : (List (Ty.den dY31))) (x14 : Int) (x15 : Int) (x44 : Int) (x45 : Int) (b2 : (Ty.den dY31)) (b3 : (Ty.den dY47)) : Option (DenR dg40.R) := fromLoop dg40.G dtt dg40.cut dg40.keep (fun _ _ => N) (codeOf Tryd.f40) (retK dtt Tryd.f40 dg40.R false) [1, 1, 1, 1, 1, 1, 1, 1, 1, 0, 1, 0, 0, 1, 1, 0, 0, 1, 1, 0] [n0] n ⟨[(2, .ref 2 0), (3, .ref 3 0), (8, .val ⟨(.int .i64), x8⟩ false), (10, .val ⟨(.int .i64), x10⟩ false), (11, .val ⟨(.int .i64), x11⟩ false), (12, .val ⟨(.int .i64), x12⟩ false), (13, .val ⟨(.sl dY31), x13⟩ true), (14, .val ⟨(.int .i64), x14⟩ false), (15, .val ⟨(.int .i64), x15⟩ false), (44, .val ⟨(.int .i64), x44⟩ false), (45, .val ⟨(.int .i64), x45⟩ false)], [(2, ⟨dY31, b2, []⟩), (3, ⟨dY47, b3, []⟩)]⟩
noncomputable def dg40.S0 (N : Nat) (x13 : (List (Ty.den dY31))) : Option (DenR dg40.R) := fromSeq dg40.G dtt dg40.cut dg40.keep (fun _ _ => N) (codeOf Tryd.f40) (retK dtt Tryd.f40 dg40.R false) [1, 1, 1, 1, 1, 1, 1, 1, 1] [] ⟨[(13, .val ⟨(.sl dY31), x13⟩ true)], []⟩
noncomputable def dg40.S1 (N : Nat) (n0 : Nat) (n1 : Nat) (x8 : Int) (x10 : Int) (x11 : Int) (x12 : Int) (x13 : (List (Ty.den dY31))) (x14 : Int) (x15 : Int) (x16 : Int) (x17 : Int) (x44 : Int) (x45 : Int) (b2 : (Ty.den dY31)) (b3 : (Ty.den dY47)) : Option (DenR dg40.R) := fromSeq dg40.G dtt dg40.cut dg40.keep (fun _ _ => N) (codeOf Tryd.f40) (retK dtt Tryd.f40 dg40.R false) [1, 1, 1, 1, 1, 1, 1, 1, 1, 0, 1, 0, 0, 1, 1, 0, 0, 1, 1, 0, 0, 1, 0, 0, 1] [n0, n1] ⟨[(2, .ref 2 0), (3, .ref 3 0), (8, .val ⟨(.int .i64), x8⟩ false), (10, .val ⟨(.int .i64), x10⟩ false), (11, .val ⟨(.int .i64), x11⟩ false), (12, .val ⟨(.int .i64), x12⟩ false), (13, .val ⟨(.sl dY31), x13⟩ true), (14, .val ⟨(.int .i64), x14⟩ false), (15, .val ⟨(.int .i64), x15⟩ false), (16, .val ⟨(.int .i64), x16⟩ false), (17, .val ⟨(.int .i64), x17⟩ false), (44, .val ⟨(.int .i64), x44⟩ false), (45, .val ⟨(.int .i64), x45⟩ false)], [(2, ⟨dY31, b2, []⟩), (3, ⟨dY47, b3, []⟩)]⟩
theorem dg40.eq (N : Nat) (a0 : (Ty.den dY31)) (a1 : (Ty.den dY47)) : dg40.N N (a0, a1, ()) =
  Option.bind (dg23 (a0, a1, ())) fun y1 =>
  bif (y1.2 != (0 : Int)) then
    some ([], y1.2)
  else
  Option.bind (dg34 (a0, a1.2.2.1, ())) fun y2 =>
  Option.bind (dg41 ((IntKind.i64.wrap y2.2), ())) fun y3 =>
  bif (decide ((IntKind.i64.wrap (y3 * y1.1)) > (20000 : Int))) then
    some ([], (3 : Int))
  else
  dg40.L0 N N y2.1 (IntKind.i64.wrap y2.2) y3 (IntKind.i64.wrap (y3 * y1.1)) [] y1.1 (0 : Int) a0 a1 := by kernel_rfl
theorem dg40.L0_eq (N : Nat)  (n : Nat) (x8 : Int) (x10 : Int) (x11 : Int) (x12 : Int) (x13 : (List (Ty.den dY31))) (x44 : Int) (x45 : Int) (b2 : (Ty.den dY31)) (b3 : (Ty.den dY47)) : dg40.L0 N  (n + 1) x8 x10 x11 x12 x13 x44 x45 b2 b3 =
  bif (decide (x45 < x44)) then
    dg40.L1 N n N x8 x10 x11 x12 x13 x45 (1 : Int) x44 x45 b2 b3
  else
  dg40.S0 N x13 := by kernel_rfl
theorem dg40.L0_zero (N : Nat) (x8 : Int) (x10 : Int) (x11 : Int) (x12 : Int) (x13 : (List (Ty.den dY31))) (x44 : Int) (x45 : Int) (b2 : (Ty.den dY31)) (b3 : (Ty.den dY47)) : dg40.L0 N  0 x8 x10 x11 x12 x13 x44 x45 b2 b3 = none := by kernel_rfl
theorem dg40.L1_eq (N : Nat) (n0 : Nat) (n : Nat) (x8 : Int) (x10 : Int) (x11 : Int) (x12 : Int) (x13 : (List (Ty.den dY31))) (x14 : Int) (x15 : Int) (x44 : Int) (x45 : Int) (b2 : (Ty.den dY31)) (b3 : (Ty.den dY47)) : dg40.L1 N n0 (n + 1) x8 x10 x11 x12 x13 x14 x15 x44 x45 b2 b3 =
  bif (decide (x15 ≤ x11)) then
    bif ((IntKind.i64.wrap ((IntKind.i64.wrap (x11 * x11)) + (IntKind.i64.wrap (x15 * x15)))) == 0) then
      none
    else
    let v4 : Int := (IntKind.i64.wrap (Int.tdiv (IntKind.i64.wrap (x10 * (IntKind.i64.wrap ((IntKind.i64.wrap (x11 * x11)) - (IntKind.i64.wrap (x15 * x15)))))) (IntKind.i64.wrap ((IntKind.i64.wrap (x11 * x11)) + (IntKind.i64.wrap (x15 * x15))))))
    bif ((IntKind.i64.wrap ((IntKind.i64.wrap (x11 * x11)) + (IntKind.i64.wrap (x15 * x15)))) == 0) then
      none
    else
    let v5 : Int := (IntKind.i64.wrap (Int.tdiv (IntKind.i64.wrap ((IntKind.i64.wrap ((IntKind.i64.wrap ((2 : Int) * x10)) * x15)) * x11)) (IntKind.i64.wrap ((IntKind.i64.wrap (x11 * x11)) + (IntKind.i64.wrap (x15 * x15))))))
    bif (b3.1 == (3 : Int)) then
      Option.bind (dg42 (v4, (IntKind.i64.wrap (0 - v5)), (IntKind.i64.wrap ((IntKind.i64.wrap (x8 - x14)) + (4 : Int))), ())) fun y6 =>
      dg40.S1 N n0 n x8 x10 x11 x12 x13 x14 x15 y6.1 y6.2 x44 x45 b2 b3
    else
    Option.bind (dg42 (v4, v5, (IntKind.i64.wrap (x8 + x14)), ())) fun y7 =>
    dg40.S1 N n0 n x8 x10 x11 x12 x13 x14 x15 y7.1 y7.2 x44 x45 b2 b3
  else
  dg40.L0 N n0 x8 x10 x11 x12 x13 x44 (IntKind.i64.wrap (x45 + (1 : Int))) b2 b3 := by kernel_rfl
theorem dg40.L1_zero (N : Nat) (n0 : Nat) (x8 : Int) (x10 : Int) (x11 : Int) (x12 : Int) (x13 : (List (Ty.den dY31))) (x14 : Int) (x15 : Int) (x44 : Int) (x45 : Int) (b2 : (Ty.den dY31)) (b3 : (Ty.den dY47)) : dg40.L1 N n0 0 x8 x10 x11 x12 x13 x14 x15 x44 x45 b2 b3 = none := by kernel_rfl
theorem dg40.S0_eqN (N : Nat)  (x13 : (List (Ty.den dY31))) : dg40.S0 (N + 1)  x13 =
  some (x13, (0 : Int)) := by kernel_rfl
theorem dg40.S0_eq  (x13 : (List (Ty.den dY31))) : dg40.S0 BIG  x13 =
  some (x13, (0 : Int)) := dg40.S0_eqN 18446744073709551615  x13
theorem dg40.S1_eqN (N : Nat) (n0 : Nat) (n1 : Nat) (x8 : Int) (x10 : Int) (x11 : Int) (x12 : Int) (x13 : (List (Ty.den dY31))) (x14 : Int) (x15 : Int) (x16 : Int) (x17 : Int) (x44 : Int) (x45 : Int) (b2 : (Ty.den dY31)) (b3 : (Ty.den dY47)) : dg40.S1 (N + 1) n0 n1 x8 x10 x11 x12 x13 x14 x15 x16 x17 x44 x45 b2 b3 =
  Option.bind (dg43 ((IntKind.i64.wrap ((IntKind.i64.wrap (b3.2.1.2.2.1 - b2.2.2.1)) * (IntKind.i64.wrap (((List.length x13 : Nat) : Int) + (1 : Int))))), x12, ())) fun y8 =>
  bif (decide (List.length x13 + List.length ([((IntKind.i64.wrap (b3.2.2.1.1 + x16)), (IntKind.i64.wrap (b3.2.2.1.2.1 + x17)), (IntKind.i64.wrap (b2.2.2.1 + y8)), ())] : (List (Ty.den dY31))) ≤ most)) then
    dg40.L1 (N + 1) n0 n1 x8 x10 x11 x12 (x13 ++ ([((IntKind.i64.wrap (b3.2.2.1.1 + x16)), (IntKind.i64.wrap (b3.2.2.1.2.1 + x17)), (IntKind.i64.wrap (b2.2.2.1 + y8)), ())] : (List (Ty.den dY31)))) x14 (IntKind.i64.wrap (x15 + (1 : Int))) x44 x45 b2 b3
  else
  none := by kernel_rfl
theorem dg40.S1_eq (n0 : Nat) (n1 : Nat) (x8 : Int) (x10 : Int) (x11 : Int) (x12 : Int) (x13 : (List (Ty.den dY31))) (x14 : Int) (x15 : Int) (x16 : Int) (x17 : Int) (x44 : Int) (x45 : Int) (b2 : (Ty.den dY31)) (b3 : (Ty.den dY47)) : dg40.S1 BIG n0 n1 x8 x10 x11 x12 x13 x14 x15 x16 x17 x44 x45 b2 b3 =
  Option.bind (dg43 ((IntKind.i64.wrap ((IntKind.i64.wrap (b3.2.1.2.2.1 - b2.2.2.1)) * (IntKind.i64.wrap (((List.length x13 : Nat) : Int) + (1 : Int))))), x12, ())) fun y8 =>
  bif (decide (List.length x13 + List.length ([((IntKind.i64.wrap (b3.2.2.1.1 + x16)), (IntKind.i64.wrap (b3.2.2.1.2.1 + x17)), (IntKind.i64.wrap (b2.2.2.1 + y8)), ())] : (List (Ty.den dY31))) ≤ most)) then
    dg40.L1 BIG n0 n1 x8 x10 x11 x12 (x13 ++ ([((IntKind.i64.wrap (b3.2.2.1.1 + x16)), (IntKind.i64.wrap (b3.2.2.1.2.1 + x17)), (IntKind.i64.wrap (b2.2.2.1 + y8)), ())] : (List (Ty.den dY31)))) x14 (IntKind.i64.wrap (x15 + (1 : Int))) x44 x45 b2 b3
  else
  none := dg40.S1_eqN 18446744073709551615 n0 n1 x8 x10 x11 x12 x13 x14 x15 x16 x17 x44 x45 b2 b3
noncomputable def dg40 (x : DenA dg40.A) : Option (DenR dg40.R) := dg40.N BIG x
noncomputable def dcon40 : Con := ⟨40, dg40.A, dg40.R, false, dg40, none⟩
theorem dsound40 : SoundC Tryd.prog Jd dcon40 :=
  sound_of (Γ := dg40.G) (tt := dtt) (cut := dg40.cut) (keep := dg40.keep) (boxes := [2, 3]) dcon40 Tryd.f40 (fu := fun _ _ _ => BIG) dtt_ok Jd_keeps ((consS dsound23 (consS dsound34 (consS dsound41 (consS dsound42 (consS dsound43 noneS)))))) dmixed (by kernel_rfl) (by kernel_rfl) fun x r h => Eq.trans (b := Con.fn dcon40 x) (by kernel_rfl) h
end Go.Ev
