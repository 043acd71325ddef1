/-
  PRINTED by the generator of this repo (wip/gen/gen.py): functions of the program as plain Lean functions, with an equation for each part and the proof that the Go calls do what they tell.
-/
import Derived.Test.YthappjffpkpojaaNeSpotsB
import Derived.Test.YthappjffpkpojaaProg
import Derived.KernelRfl
namespace Go.Ev
open Go Go.Proofs
set_option linter.unusedVariables false
/-! swarf/nest.spot$1 -/
noncomputable def ng46.G : List Con := [ncon37]
def ng46.cut : Cuts := []
def ng46.keep : List Nat := [1, 2, 3, 4, 5]
@[reducible] def ng46.A : List ATy := [.v nY38, .pk (.int .i64), .pk (.sl nY44), .pk nY38]
@[reducible] def ng46.R : List Ty := [.bool]
noncomputable def ng46.N (N : Nat) (x : DenA ng46.A) : Option (DenR ng46.R) := fnR ng46.G ntt ng46.cut ng46.keep [4] (fun _ _ => N) Try.f46 ng46.R false (encA ng46.A x)
theorem ng46.eq (N : Nat) (a0 : (Ty.den nY38)) (a1 : Int) (a2 : (List (Ty.den nY44))) (a3 : (Ty.den nY38)) : ng46.N N (a0, a1, a2, a3, ()) =
  Option.bind (ng37 (a1, a2, a3, a0, ())) fun y1 =>
  some (!y1) := by kernel_rfl
noncomputable def ng46 (x : DenA ng46.A) : Option (DenR ng46.R) := ng46.N BIG x
noncomputable def ncon46 : Con := ⟨46, ng46.A, ng46.R, false, ng46, none⟩
theorem nsound46 : SoundC Try.prog Jn ncon46 :=
  sound_of (Γ := ng46.G) (tt := ntt) (cut := ng46.cut) (keep := ng46.keep) (boxes := [4]) ncon46 Try.f46 (fu := fun _ _ _ => BIG) ntt_ok Jn_keeps ((consS nsound37 noneS)) nmixed (by kernel_rfl) (by kernel_rfl) fun x r h => Eq.trans (b := Con.fn ncon46 x) (by kernel_rfl) h
/-! slices.IndexFunc[[]swarf/nest.Place,swarf/nest.Place] -/
noncomputable def ng41_46.G : List Con := [ncon46]
def ng41_46.cut : Cuts := [([0, 1, 0, 1], [0, 1, 7, 8], [])]
def ng41_46.keep : List Nat := [0, 1, 4, 5, 7, 8, 9, 16]
@[reducible] def ng41_46.A : List ATy := [.v (.sl nY38), .cl 46 [(true, (.int .i64)), (true, (.sl nY44)), (true, nY38)]]
@[reducible] def ng41_46.R : List Ty := [(.int .i64)]
noncomputable def ng41_46.N (N : Nat) (x : DenA ng41_46.A) : Option (DenR ng41_46.R) := fnR ng41_46.G ntt ng41_46.cut ng41_46.keep [] (fun _ _ => N) Try.f41 ng41_46.R false (encA ng41_46.A x)
noncomputable def ng41_46.L0 (N : Nat) (n : Nat) (x0 : (List (Ty.den nY38))) (x1_0 : Int) (x1_1 : (List (Ty.den nY44))) (x1_2 : (Ty.den nY38)) (x7 : Int) (x8 : Int) : Option (DenR ng41_46.R) := fromLoop ng41_46.G ntt ng41_46.cut ng41_46.keep (fun _ _ => N) (codeOf Try.f41) (retK ntt Try.f41 ng41_46.R false) [1, 0, 1, 0] [] n ⟨[(0, .val ⟨(.sl nY38), x0⟩ false), (1, .clo 46 [.peek ⟨(.int .i64), x1_0⟩, .peek ⟨(.sl nY44), x1_1⟩, .peek ⟨nY38, x1_2⟩]), (7, .val ⟨(.int .i64), x7⟩ false), (8, .val ⟨(.int .i64), x8⟩ false)], []⟩
theorem ng41_46.eq (N : Nat) (a0 : (List (Ty.den nY38))) (a1_0 : Int) (a1_1 : (List (Ty.den nY44))) (a1_2 : (Ty.den nY38)) : ng41_46.N N (a0, (a1_0, a1_1, a1_2, ()), ()) =
  ng41_46.L0 N N a0 a1_0 a1_1 a1_2 ((List.length a0 : Nat) : Int) (0 : Int) := by kernel_rfl
theorem ng41_46.L0_eq (N : Nat)  (n : Nat) (x0 : (List (Ty.den nY38))) (x1_0 : Int) (x1_1 : (List (Ty.den nY44))) (x1_2 : (Ty.den nY38)) (x7 : Int) (x8 : Int) : ng41_46.L0 N  (n + 1) x0 x1_0 x1_1 x1_2 x7 x8 =
  bif (decide (x8 < x7)) then
    Option.bind (idx x0 x8) fun r1 =>
    Option.bind (ng46 (r1, x1_0, x1_1, x1_2, ())) fun y2 =>
    bif y2 then
      some x8
    else
    ng41_46.L0 N n x0 x1_0 x1_1 x1_2 x7 (IntKind.i64.wrap (x8 + (1 : Int)))
  else
  some (-1 : Int) := by kernel_rfl
theorem ng41_46.L0_zero (N : Nat) (x0 : (List (Ty.den nY38))) (x1_0 : Int) (x1_1 : (List (Ty.den nY44))) (x1_2 : (Ty.den nY38)) (x7 : Int) (x8 : Int) : ng41_46.L0 N  0 x0 x1_0 x1_1 x1_2 x7 x8 = none := by kernel_rfl
noncomputable def ng41_46 (x : DenA ng41_46.A) : Option (DenR ng41_46.R) := ng41_46.N BIG x
noncomputable def ncon41_46 : Con := ⟨41, ng41_46.A, ng41_46.R, false, ng41_46, none⟩
theorem nsound41_46 : SoundC Try.prog Jn ncon41_46 :=
  sound_of (Γ := ng41_46.G) (tt := ntt) (cut := ng41_46.cut) (keep := ng41_46.keep) (boxes := []) ncon41_46 Try.f41 (fu := fun _ _ _ => BIG) ntt_ok Jn_keeps ((consS nsound46 noneS)) nmixed (by kernel_rfl) (by kernel_rfl) fun x r h => Eq.trans (b := Con.fn ncon41_46 x) (by kernel_rfl) h
/-! slices.ContainsFunc[[]swarf/nest.Place,swarf/nest.Place] -/
noncomputable def ng24_46.G : List Con := [ncon41_46]
def ng24_46.cut : Cuts := []
def ng24_46.keep : List Nat := [0, 1, 4]
@[reducible] def ng24_46.A : List ATy := [.v (.sl nY38), .cl 46 [(true, (.int .i64)), (true, (.sl nY44)), (true, nY38)]]
@[reducible] def ng24_46.R : List Ty := [.bool]
noncomputable def ng24_46.N (N : Nat) (x : DenA ng24_46.A) : Option (DenR ng24_46.R) := fnR ng24_46.G ntt ng24_46.cut ng24_46.keep [] (fun _ _ => N) Try.f24 ng24_46.R false (encA ng24_46.A x)
theorem ng24_46.eq (N : Nat) (a0 : (List (Ty.den nY38))) (a1_0 : Int) (a1_1 : (List (Ty.den nY44))) (a1_2 : (Ty.den nY38)) : ng24_46.N N (a0, (a1_0, a1_1, a1_2, ()), ()) =
  Option.bind (ng41_46 (a0, (a1_0, a1_1, a1_2, ()), ())) fun y1 =>
  some (decide (y1 ≥ (0 : Int))) := by kernel_rfl
noncomputable def ng24_46 (x : DenA ng24_46.A) : Option (DenR ng24_46.R) := ng24_46.N BIG x
noncomputable def ncon24_46 : Con := ⟨24, ng24_46.A, ng24_46.R, false, ng24_46, none⟩
theorem nsound24_46 : SoundC Try.prog Jn ncon24_46 :=
  sound_of (Γ := ng24_46.G) (tt := ntt) (cut := ng24_46.cut) (keep := ng24_46.keep) (boxes := []) ncon24_46 Try.f24 (fu := fun _ _ _ => BIG) ntt_ok Jn_keeps ((consS nsound41_46 noneS)) nmixed (by kernel_rfl) (by kernel_rfl) fun x r h => Eq.trans (b := Con.fn ncon24_46 x) (by kernel_rfl) h
/-! swarf/nest.spot -/
noncomputable def ng29.G : List Con := [ncon16, ncon36, ncon24_46]
def ng29.cut : Cuts := [([0, 1, 0, 1], [0, 1, 4, 5, 8, 9, 12, 24, 25, 26], [8, 9, 12]), ([0, 1, 1, 0, 0, 1, 1, 0, 0, 1, 0, 1], [0, 1, 4, 5, 8, 9, 12, 15, 24, 25, 26, 30, 31, 32], [8, 9, 12, 15]), ([1], [12], [12])]
def ng29.keep : List Nat := [0, 1, 4, 5, 8, 9, 12, 13, 15, 17, 18, 24, 25, 26, 27, 30, 31, 32, 33, 54]
@[reducible] def ng29.A : List ATy := [.v (.int .i64), .v (.int .i64), .v (.int .i64), .v (.sl nY44), .v (.sl nY38), .v (.int .i64)]
@[reducible] def ng29.R : List Ty := [nY38, .bool]
noncomputable def ng29.N (N : Nat) (x : DenA ng29.A) : Option (DenR ng29.R) := fnR ng29.G ntt ng29.cut ng29.keep [8, 9, 12, 15, 18] (fun _ _ => N) Try.f29 ng29.R false (encA ng29.A x)
noncomputable def ng29.L0 (N : Nat) (n : Nat) (x0 : Int) (x1 : Int) (x4 : (List (Ty.den nY38))) (x5 : Int) (x24 : (List (Ty.den nY44))) (x25 : Int) (x26 : Int) (b8 : Int) (b9 : (List (Ty.den nY44))) (b12 : (Ty.den nY38)) : Option (DenR ng29.R) := fromLoop ng29.G ntt ng29.cut ng29.keep (fun _ _ => N) (codeOf Try.f29) (retK ntt Try.f29 ng29.R false) [1, 0, 1, 0] [] n ⟨[(0, .val ⟨(.int .i64), x0⟩ false), (1, .val ⟨(.int .i64), x1⟩ false), (4, .val ⟨(.sl nY38), x4⟩ false), (5, .val ⟨(.int .i64), x5⟩ false), (8, .ref 8 0), (9, .ref 9 0), (12, .ref 12 0), (24, .val ⟨(.sl nY44), x24⟩ false), (25, .val ⟨(.int .i64), x25⟩ false), (26, .val ⟨(.int .i64), x26⟩ false)], [(8, ⟨(.int .i64), b8, []⟩), (9, ⟨(.sl nY44), b9, []⟩), (12, ⟨nY38, b12, []⟩)]⟩
noncomputable def ng29.L1 (N : Nat) (n0 : Nat) (n : Nat) (x0 : Int) (x1 : Int) (x4 : (List (Ty.den nY38))) (x5 : Int) (x24 : (List (Ty.den nY44))) (x25 : Int) (x26 : Int) (x30 : (List Bool)) (x31 : Int) (x32 : Int) (b8 : Int) (b9 : (List (Ty.den nY44))) (b12 : (Ty.den nY38)) (b15 : (Ty.den nY44)) : Option (DenR ng29.R) := fromLoop ng29.G ntt ng29.cut ng29.keep (fun _ _ => N) (codeOf Try.f29) (retK ntt Try.f29 ng29.R false) [1, 0, 1, 0, 0, 1, 1, 0, 0, 1, 1, 0] [n0] n ⟨[(0, .val ⟨(.int .i64), x0⟩ false), (1, .val ⟨(.int .i64), x1⟩ false), (4, .val ⟨(.sl nY38), x4⟩ false), (5, .val ⟨(.int .i64), x5⟩ false), (8, .ref 8 0), (9, .ref 9 0), (12, .ref 12 0), (15, .ref 15 0), (24, .val ⟨(.sl nY44), x24⟩ false), (25, .val ⟨(.int .i64), x25⟩ false), (26, .val ⟨(.int .i64), x26⟩ false), (30, .val ⟨(.sl .bool), x30⟩ true), (31, .val ⟨(.int .i64), x31⟩ false), (32, .val ⟨(.int .i64), x32⟩ false)], [(8, ⟨(.int .i64), b8, []⟩), (9, ⟨(.sl nY44), b9, []⟩), (12, ⟨nY38, b12, []⟩), (15, ⟨nY44, b15, []⟩)]⟩
noncomputable def ng29.S0 (N : Nat) (b12 : (Ty.den nY38)) : Option (DenR ng29.R) := fromSeq ng29.G ntt ng29.cut ng29.keep (fun _ _ => N) (codeOf Try.f29) (retK ntt Try.f29 ng29.R false) [1] [] ⟨[(12, .ref 12 0)], [(12, ⟨nY38, b12, []⟩)]⟩
theorem ng29.eq (N : Nat) (a0 : Int) (a1 : Int) (a2 : Int) (a3 : (List (Ty.den nY44))) (a4 : (List (Ty.den nY38))) (a5 : Int) : ng29.N N (a0, a1, a2, a3, a4, a5, ()) =
  Option.bind (ng16 (a0, a1, a2, a3, a4, ())) fun y1 =>
  ng29.L0 N N a0 a1 a4 a5 y1 ((List.length y1 : Nat) : Int) (0 : Int) a2 a3 ((0 : Int), (0 : Int), (0 : Int), false, ()) := by kernel_rfl
theorem ng29.L0_eq (N : Nat)  (n : Nat) (x0 : Int) (x1 : Int) (x4 : (List (Ty.den nY38))) (x5 : Int) (x24 : (List (Ty.den nY44))) (x25 : Int) (x26 : Int) (b8 : Int) (b9 : (List (Ty.den nY44))) (b12 : (Ty.den nY38)) : ng29.L0 N  (n + 1) x0 x1 x4 x5 x24 x25 x26 b8 b9 b12 =
  bif (decide (x26 < x25)) then
    Option.bind (idx x24 x26) fun r2 =>
    ng29.L1 N n N x0 x1 x4 x5 x24 x25 x26 [false, true] ((List.length [false, true] : Nat) : Int) (0 : Int) b8 b9 b12 r2
  else
  ng29.S0 N b12 := by kernel_rfl
theorem ng29.L0_zero (N : Nat) (x0 : Int) (x1 : Int) (x4 : (List (Ty.den nY38))) (x5 : Int) (x24 : (List (Ty.den nY44))) (x25 : Int) (x26 : Int) (b8 : Int) (b9 : (List (Ty.den nY44))) (b12 : (Ty.den nY38)) : ng29.L0 N  0 x0 x1 x4 x5 x24 x25 x26 b8 b9 b12 = none := by kernel_rfl
theorem ng29.L1_eq (N : Nat) (n0 : Nat) (n : Nat) (x0 : Int) (x1 : Int) (x4 : (List (Ty.den nY38))) (x5 : Int) (x24 : (List (Ty.den nY44))) (x25 : Int) (x26 : Int) (x30 : (List Bool)) (x31 : Int) (x32 : Int) (b8 : Int) (b9 : (List (Ty.den nY44))) (b12 : (Ty.den nY38)) (b15 : (Ty.den nY44)) : ng29.L1 N n0 (n + 1) x0 x1 x4 x5 x24 x25 x26 x30 x31 x32 b8 b9 b12 b15 =
  bif (decide (x32 < x31)) then
    Option.bind (idx x30 x32) fun r3 =>
    Option.bind (ng36 (x0, x1, b8, b9, (x5, b15.1, b15.2.1, r3, ()), ())) fun y4 =>
    bif y4 then
      Option.bind (ng24_46 (x4, (b8, b9, (x5, b15.1, b15.2.1, r3, ()), ()), ())) fun y5 =>
      bif (!y5) then
        some ((x5, b15.1, b15.2.1, r3, ()), true)
      else
      ng29.L1 N n0 n x0 x1 x4 x5 x24 x25 x26 x30 x31 (IntKind.i64.wrap (x32 + (1 : Int))) b8 b9 b12 b15
    else
    ng29.L1 N n0 n x0 x1 x4 x5 x24 x25 x26 x30 x31 (IntKind.i64.wrap (x32 + (1 : Int))) b8 b9 b12 b15
  else
  ng29.L0 N n0 x0 x1 x4 x5 x24 x25 (IntKind.i64.wrap (x26 + (1 : Int))) b8 b9 b12 := by kernel_rfl
theorem ng29.L1_zero (N : Nat) (n0 : Nat) (x0 : Int) (x1 : Int) (x4 : (List (Ty.den nY38))) (x5 : Int) (x24 : (List (Ty.den nY44))) (x25 : Int) (x26 : Int) (x30 : (List Bool)) (x31 : Int) (x32 : Int) (b8 : Int) (b9 : (List (Ty.den nY44))) (b12 : (Ty.den nY38)) (b15 : (Ty.den nY44)) : ng29.L1 N n0 0 x0 x1 x4 x5 x24 x25 x26 x30 x31 x32 b8 b9 b12 b15 = none := by kernel_rfl
theorem ng29.S0_eqN (N : Nat)  (b12 : (Ty.den nY38)) : ng29.S0 (N + 1)  b12 =
  some (((0 : Int), (0 : Int), (0 : Int), false, ()), false) := by kernel_rfl
theorem ng29.S0_eq  (b12 : (Ty.den nY38)) : ng29.S0 BIG  b12 =
  some (((0 : Int), (0 : Int), (0 : Int), false, ()), false) := ng29.S0_eqN 18446744073709551615  b12
noncomputable def ng29 (x : DenA ng29.A) : Option (DenR ng29.R) := ng29.N BIG x
noncomputable def ncon29 : Con := ⟨29, ng29.A, ng29.R, false, ng29, none⟩
theorem nsound29 : SoundC Try.prog Jn ncon29 :=
  sound_of (Γ := ng29.G) (tt := ntt) (cut := ng29.cut) (keep := ng29.keep) (boxes := [8, 9, 12, 15, 18]) ncon29 Try.f29 (fu := fun _ _ _ => BIG) ntt_ok Jn_keeps ((consS nsound16 (consS nsound36 (consS nsound24_46 noneS)))) nmixed (by kernel_rfl) (by kernel_rfl) fun x r h => Eq.trans (b := Con.fn ncon29 x) (by kernel_rfl) h
/-! swarf/nest.Nest -/
noncomputable def ng9.G : List Con := [ncon28, ncon29]
def ng9.cut : Cuts := [([0, 1, 0, 1, 1, 1, 1], [0, 1, 2, 3, 11, 12, 23, 24], []), ([1, 1, 1, 1], [11, 12], [])]
def ng9.keep : List Nat := [0, 1, 2, 3, 8, 9, 10, 11, 12, 13, 14, 15, 21, 23, 24, 25, 37]
@[reducible] def ng9.A : List ATy := [.v (.int .i64), .v (.int .i64), .v (.int .i64), .v (.sl nY44)]
@[reducible] def ng9.R : List Ty := [(.sl nY38), (.sl (.int .i64)), (.int .i64)]
noncomputable def ng9.N (N : Nat) (x : DenA ng9.A) : Option (DenR ng9.R) := fnR ng9.G ntt ng9.cut ng9.keep [14] (fun _ _ => N) Try.f9 ng9.R false (encA ng9.A x)
noncomputable def ng9.L0 (N : Nat) (n : Nat) (x0 : Int) (x1 : Int) (x2 : Int) (x3 : (List (Ty.den nY44))) (x11 : (List (Ty.den nY38))) (x12 : (List Int)) (x23 : Int) (x24 : Int) : Option (DenR ng9.R) := fromLoop ng9.G ntt ng9.cut ng9.keep (fun _ _ => N) (codeOf Try.f9) (retK ntt Try.f9 ng9.R false) [1, 1, 1, 1, 0, 1, 0] [] n ⟨[(0, .val ⟨(.int .i64), x0⟩ false), (1, .val ⟨(.int .i64), x1⟩ false), (2, .val ⟨(.int .i64), x2⟩ false), (3, .val ⟨(.sl nY44), x3⟩ false), (11, .val ⟨(.sl nY38), x11⟩ true), (12, .val ⟨(.sl (.int .i64)), x12⟩ true), (23, .val ⟨(.int .i64), x23⟩ false), (24, .val ⟨(.int .i64), x24⟩ false)], []⟩
noncomputable def ng9.S0 (N : Nat) (x11 : (List (Ty.den nY38))) (x12 : (List Int)) : Option (DenR ng9.R) := fromSeq ng9.G ntt ng9.cut ng9.keep (fun _ _ => N) (codeOf Try.f9) (retK ntt Try.f9 ng9.R false) [1, 1, 1, 1] [] ⟨[(11, .val ⟨(.sl nY38), x11⟩ true), (12, .val ⟨(.sl (.int .i64)), x12⟩ true)], []⟩
theorem ng9.eq (N : Nat) (a0 : Int) (a1 : Int) (a2 : Int) (a3 : (List (Ty.den nY44))) : ng9.N N (a0, a1, a2, a3, ()) =
  Option.bind (ng28 (a0, a1, a2, a3, ())) fun y1 =>
  bif (!y1) then
    some ([], [], (1 : Int))
  else
  ng9.L0 N N a0 a1 a2 a3 [] [] ((List.length a3 : Nat) : Int) (0 : Int) := by kernel_rfl
theorem ng9.L0_eq (N : Nat)  (n : Nat) (x0 : Int) (x1 : Int) (x2 : Int) (x3 : (List (Ty.den nY44))) (x11 : (List (Ty.den nY38))) (x12 : (List Int)) (x23 : Int) (x24 : Int) : ng9.L0 N  (n + 1) x0 x1 x2 x3 x11 x12 x23 x24 =
  bif (decide (x24 < x23)) then
    Option.bind (ng29 (x0, x1, x2, x3, x11, x24, ())) fun y2 =>
    bif y2.2 then
      bif (decide (List.length x11 + List.length ([y2.1] : (List (Ty.den nY38))) ≤ most)) then
        ng9.L0 N n x0 x1 x2 x3 (x11 ++ ([y2.1] : (List (Ty.den nY38)))) x12 x23 (IntKind.i64.wrap (x24 + (1 : Int)))
      else
      none
    else
    bif (decide (List.length x12 + List.length ([x24] : (List Int)) ≤ most)) then
      ng9.L0 N n x0 x1 x2 x3 x11 (x12 ++ ([x24] : (List Int))) x23 (IntKind.i64.wrap (x24 + (1 : Int)))
    else
    none
  else
  ng9.S0 N x11 x12 := by kernel_rfl
theorem ng9.L0_zero (N : Nat) (x0 : Int) (x1 : Int) (x2 : Int) (x3 : (List (Ty.den nY44))) (x11 : (List (Ty.den nY38))) (x12 : (List Int)) (x23 : Int) (x24 : Int) : ng9.L0 N  0 x0 x1 x2 x3 x11 x12 x23 x24 = none := by kernel_rfl
theorem ng9.S0_eqN (N : Nat)  (x11 : (List (Ty.den nY38))) (x12 : (List Int)) : ng9.S0 (N + 1)  x11 x12 =
  some (x11, x12, (0 : Int)) := by kernel_rfl
theorem ng9.S0_eq  (x11 : (List (Ty.den nY38))) (x12 : (List Int)) : ng9.S0 BIG  x11 x12 =
  some (x11, x12, (0 : Int)) := ng9.S0_eqN 18446744073709551615  x11 x12
noncomputable def ng9 (x : DenA ng9.A) : Option (DenR ng9.R) := ng9.N BIG x
noncomputable def ncon9 : Con := ⟨9, ng9.A, ng9.R, false, ng9, none⟩
theorem nsound9 : SoundC Try.prog Jn ncon9 :=
  sound_of (Γ := ng9.G) (tt := ntt) (cut := ng9.cut) (keep := ng9.keep) (boxes := [14]) ncon9 Try.f9 (fu := fun _ _ _ => BIG) ntt_ok Jn_keeps ((consS nsound28 (consS nsound29 noneS))) nmixed (by kernel_rfl) (by kernel_rfl) fun x r h => Eq.trans (b := Con.fn ncon9 x) (by kernel_rfl) h
/-! slices.Equal[[]swarf/nest.Place,swarf/nest.Place] -/
noncomputable def ng26.G : List Con := []
def ng26.cut : Cuts := [([0, 1, 0, 1, 1], [0, 1, 12, 13], [])]
def ng26.keep : List Nat := [0, 1, 4, 5, 10, 12, 13, 14, 24]
@[reducible] def ng26.A : List ATy := [.v (.sl nY38), .v (.sl nY38)]
@[reducible] def ng26.R : List Ty := [.bool]
noncomputable def ng26.N (N : Nat) (x : DenA ng26.A) : Option (DenR ng26.R) := fnR ng26.G ntt ng26.cut ng26.keep [] (fun _ _ => N) Try.f26 ng26.R false (encA ng26.A x)
noncomputable def ng26.L0 (N : Nat) (n : Nat) (x0 : (List (Ty.den nY38))) (x1 : (List (Ty.den nY38))) (x12 : Int) (x13 : Int) : Option (DenR ng26.R) := fromLoop ng26.G ntt ng26.cut ng26.keep (fun _ _ => N) (codeOf Try.f26) (retK ntt Try.f26 ng26.R false) [1, 1, 0, 1, 0] [] n ⟨[(0, .val ⟨(.sl nY38), x0⟩ false), (1, .val ⟨(.sl nY38), x1⟩ false), (12, .val ⟨(.int .i64), x12⟩ false), (13, .val ⟨(.int .i64), x13⟩ false)], []⟩
theorem ng26.eq (N : Nat) (a0 : (List (Ty.den nY38))) (a1 : (List (Ty.den nY38))) : ng26.N N (a0, a1, ()) =
  bif (((List.length a0 : Nat) : Int) != ((List.length a1 : Nat) : Int)) then
    some false
  else
  ng26.L0 N N a0 a1 ((List.length a0 : Nat) : Int) (0 : Int) := by kernel_rfl
theorem ng26.L0_eq (N : Nat)  (n : Nat) (x0 : (List (Ty.den nY38))) (x1 : (List (Ty.den nY38))) (x12 : Int) (x13 : Int) : ng26.L0 N  (n + 1) x0 x1 x12 x13 =
  bif (decide (x13 < x12)) then
    Option.bind (idx x0 x13) fun r1 =>
    Option.bind (idx x1 x13) fun r2 =>
    bif (!(eqD nY38 r1 r2)) then
      some false
    else
    ng26.L0 N n x0 x1 x12 (IntKind.i64.wrap (x13 + (1 : Int)))
  else
  some true := by kernel_rfl
theorem ng26.L0_zero (N : Nat) (x0 : (List (Ty.den nY38))) (x1 : (List (Ty.den nY38))) (x12 : Int) (x13 : Int) : ng26.L0 N  0 x0 x1 x12 x13 = none := by kernel_rfl
noncomputable def ng26 (x : DenA ng26.A) : Option (DenR ng26.R) := ng26.N BIG x
noncomputable def ncon26 : Con := ⟨26, ng26.A, ng26.R, false, ng26, none⟩
theorem nsound26 : SoundC Try.prog Jn ncon26 :=
  sound_of (Γ := ng26.G) (tt := ntt) (cut := ng26.cut) (keep := ng26.keep) (boxes := []) ncon26 Try.f26 (fu := fun _ _ _ => BIG) ntt_ok Jn_keeps (noneS) nmixed (by kernel_rfl) (by kernel_rfl) fun x r h => Eq.trans (b := Con.fn ncon26 x) (by kernel_rfl) h
/-! slices.Equal[[]int,int] -/
noncomputable def ng14.G : List Con := []
def ng14.cut : Cuts := [([0, 1, 0, 1, 1], [0, 1, 12, 13], [])]
def ng14.keep : List Nat := [0, 1, 4, 5, 10, 12, 13, 14, 24]
@[reducible] def ng14.A : List ATy := [.v (.sl (.int .i64)), .v (.sl (.int .i64))]
@[reducible] def ng14.R : List Ty := [.bool]
noncomputable def ng14.N (N : Nat) (x : DenA ng14.A) : Option (DenR ng14.R) := fnR ng14.G ntt ng14.cut ng14.keep [] (fun _ _ => N) Try.f14 ng14.R false (encA ng14.A x)
noncomputable def ng14.L0 (N : Nat) (n : Nat) (x0 : (List Int)) (x1 : (List Int)) (x12 : Int) (x13 : Int) : Option (DenR ng14.R) := fromLoop ng14.G ntt ng14.cut ng14.keep (fun _ _ => N) (codeOf Try.f14) (retK ntt Try.f14 ng14.R false) [1, 1, 0, 1, 0] [] n ⟨[(0, .val ⟨(.sl (.int .i64)), x0⟩ false), (1, .val ⟨(.sl (.int .i64)), x1⟩ false), (12, .val ⟨(.int .i64), x12⟩ false), (13, .val ⟨(.int .i64), x13⟩ false)], []⟩
theorem ng14.eq (N : Nat) (a0 : (List Int)) (a1 : (List Int)) : ng14.N N (a0, a1, ()) =
  bif (((List.length a0 : Nat) : Int) != ((List.length a1 : Nat) : Int)) then
    some false
  else
  ng14.L0 N N a0 a1 ((List.length a0 : Nat) : Int) (0 : Int) := by kernel_rfl
theorem ng14.L0_eq (N : Nat)  (n : Nat) (x0 : (List Int)) (x1 : (List Int)) (x12 : Int) (x13 : Int) : ng14.L0 N  (n + 1) x0 x1 x12 x13 =
  bif (decide (x13 < x12)) then
    Option.bind (idx x0 x13) fun r1 =>
    Option.bind (idx x1 x13) fun r2 =>
    bif (r1 != r2) then
      some false
    else
    ng14.L0 N n x0 x1 x12 (IntKind.i64.wrap (x13 + (1 : Int)))
  else
  some true := by kernel_rfl
theorem ng14.L0_zero (N : Nat) (x0 : (List Int)) (x1 : (List Int)) (x12 : Int) (x13 : Int) : ng14.L0 N  0 x0 x1 x12 x13 = none := by kernel_rfl
noncomputable def ng14 (x : DenA ng14.A) : Option (DenR ng14.R) := ng14.N BIG x
noncomputable def ncon14 : Con := ⟨14, ng14.A, ng14.R, false, ng14, none⟩
theorem nsound14 : SoundC Try.prog Jn ncon14 :=
  sound_of (Γ := ng14.G) (tt := ntt) (cut := ng14.cut) (keep := ng14.keep) (boxes := []) ncon14 Try.f14 (fu := fun _ _ _ => BIG) ntt_ok Jn_keeps (noneS) nmixed (by kernel_rfl) (by kernel_rfl) fun x r h => Eq.trans (b := Con.fn ncon14 x) (by kernel_rfl) h
/-! cmp.isNaN[int64] -/
noncomputable def ng49.G : List Con := []
def ng49.cut : Cuts := []
def ng49.keep : List Nat := [0, 2]
@[reducible] def ng49.A : List ATy := [.v (.int .i64)]
@[reducible] def ng49.R : List Ty := [.bool]
noncomputable def ng49.N (N : Nat) (x : DenA ng49.A) : Option (DenR ng49.R) := fnR ng49.G ntt ng49.cut ng49.keep [] (fun _ _ => N) Try.f49 ng49.R false (encA ng49.A x)
theorem ng49.eq (N : Nat) (a0 : Int) : ng49.N N (a0, ()) =
  some (a0 != a0) := by kernel_rfl
noncomputable def ng49 (x : DenA ng49.A) : Option (DenR ng49.R) := ng49.N BIG x
noncomputable def ncon49 : Con := ⟨49, ng49.A, ng49.R, false, ng49, none⟩
theorem nsound49 : SoundC Try.prog Jn ncon49 :=
  sound_of (Γ := ng49.G) (tt := ntt) (cut := ng49.cut) (keep := ng49.keep) (boxes := []) ncon49 Try.f49 (fu := fun _ _ _ => BIG) ntt_ok Jn_keeps (noneS) nmixed (by kernel_rfl) (by kernel_rfl) fun x r h => Eq.trans (b := Con.fn ncon49 x) (by kernel_rfl) h
/-! cmp.Compare[int64] -/
noncomputable def ng42.G : List Con := [ncon49]
def ng42.cut : Cuts := []
def ng42.keep : List Nat := [0, 1, 4, 5, 6, 11, 12, 13, 16, 19]
@[reducible] def ng42.A : List ATy := [.v (.int .i64), .v (.int .i64)]
@[reducible] def ng42.R : List Ty := [(.int .i64)]
noncomputable def ng42.N (N : Nat) (x : DenA ng42.A) : Option (DenR ng42.R) := fnR ng42.G ntt ng42.cut ng42.keep [] (fun _ _ => N) Try.f42 ng42.R false (encA ng42.A x)
theorem ng42.eq (N : Nat) (a0 : Int) (a1 : Int) : ng42.N N (a0, a1, ()) =
  Option.bind (ng49 (a0, ())) fun y1 =>
  Option.bind (ng49 (a1, ())) fun y2 =>
  bif y1 then
    bif y2 then
      some (0 : Int)
    else
    some (-1 : Int)
  else
  bif y2 then
    some (1 : Int)
  else
  bif (decide (a0 < a1)) then
    some (-1 : Int)
  else
  bif (decide (a0 > a1)) then
    some (1 : Int)
  else
  some (0 : Int) := by kernel_rfl
noncomputable def ng42 (x : DenA ng42.A) : Option (DenR ng42.R) := ng42.N BIG x
noncomputable def ncon42 : Con := ⟨42, ng42.A, ng42.R, false, ng42, none⟩
theorem nsound42 : SoundC Try.prog Jn ncon42 :=
  sound_of (Γ := ng42.G) (tt := ntt) (cut := ng42.cut) (keep := ng42.keep) (boxes := []) ncon42 Try.f42 (fu := fun _ _ _ => BIG) ntt_ok Jn_keeps ((consS nsound49 noneS)) nmixed (by kernel_rfl) (by kernel_rfl) fun x r h => Eq.trans (b := Con.fn ncon42 x) (by kernel_rfl) h
/-! swarf/nest.Overfull -/
noncomputable def ng27.G : List Con := [ncon28, ncon42]
def ng27.cut : Cuts := [([0, 1, 0, 1, 1, 1, 1], [0, 1, 2, 9, 31, 32, 33], []), ([1, 1, 1, 1], [0, 1, 2, 9], [])]
def ng27.keep : List Nat := [0, 1, 2, 3, 8, 9, 11, 22, 30, 31, 32, 33, 34]
@[reducible] def ng27.A : List ATy := [.v (.int .i64), .v (.int .i64), .v (.int .i64), .v (.sl nY44)]
@[reducible] def ng27.R : List Ty := [.bool]
noncomputable def ng27.N (N : Nat) (x : DenA ng27.A) : Option (DenR ng27.R) := fnR ng27.G ntt ng27.cut ng27.keep [11] (fun _ _ => N) Try.f27 ng27.R false (encA ng27.A x)
noncomputable def ng27.L0 (N : Nat) (n : Nat) (x0 : Int) (x1 : Int) (x2 : Int) (x9 : Int) (x31 : (List (Ty.den nY44))) (x32 : Int) (x33 : Int) : Option (DenR ng27.R) := fromLoop ng27.G ntt ng27.cut ng27.keep (fun _ _ => N) (codeOf Try.f27) (retK ntt Try.f27 ng27.R false) [1, 1, 1, 1, 0, 1, 0] [] n ⟨[(0, .val ⟨(.int .i64), x0⟩ false), (1, .val ⟨(.int .i64), x1⟩ false), (2, .val ⟨(.int .i64), x2⟩ false), (9, .val ⟨(.int .i64), x9⟩ false), (31, .val ⟨(.sl nY44), x31⟩ false), (32, .val ⟨(.int .i64), x32⟩ false), (33, .val ⟨(.int .i64), x33⟩ false)], []⟩
noncomputable def ng27.S0 (N : Nat) (x0 : Int) (x1 : Int) (x2 : Int) (x9 : Int) : Option (DenR ng27.R) := fromSeq ng27.G ntt ng27.cut ng27.keep (fun _ _ => N) (codeOf Try.f27) (retK ntt Try.f27 ng27.R false) [1, 1, 1, 1] [] ⟨[(0, .val ⟨(.int .i64), x0⟩ false), (1, .val ⟨(.int .i64), x1⟩ false), (2, .val ⟨(.int .i64), x2⟩ false), (9, .val ⟨(.int .i64), x9⟩ false)], []⟩
theorem ng27.eq (N : Nat) (a0 : Int) (a1 : Int) (a2 : Int) (a3 : (List (Ty.den nY44))) : ng27.N N (a0, a1, a2, a3, ()) =
  Option.bind (ng28 (a0, a1, a2, a3, ())) fun y1 =>
  bif (!y1) then
    some false
  else
  bif (((List.length a3 : Nat) : Int) == (0 : Int)) then
    some false
  else
  bif (decide (a0 ≤ a2)) then
    some true
  else
  bif (decide (a1 ≤ a2)) then
    some true
  else
  ng27.L0 N N a0 a1 a2 (0 : Int) a3 ((List.length a3 : Nat) : Int) (0 : Int) := by kernel_rfl
theorem ng27.L0_eq (N : Nat)  (n : Nat) (x0 : Int) (x1 : Int) (x2 : Int) (x9 : Int) (x31 : (List (Ty.den nY44))) (x32 : Int) (x33 : Int) : ng27.L0 N  (n + 1) x0 x1 x2 x9 x31 x32 x33 =
  bif (decide (x33 < x32)) then
    Option.bind (idx x31 x33) fun r2 =>
    ng27.L0 N n x0 x1 x2 (IntKind.i64.wrap (x9 + (IntKind.i64.wrap ((IntKind.i64.wrap (r2.1 + x2)) * (IntKind.i64.wrap (r2.2.1 + x2)))))) x31 x32 (IntKind.i64.wrap (x33 + (1 : Int)))
  else
  ng27.S0 N x0 x1 x2 x9 := by kernel_rfl
theorem ng27.L0_zero (N : Nat) (x0 : Int) (x1 : Int) (x2 : Int) (x9 : Int) (x31 : (List (Ty.den nY44))) (x32 : Int) (x33 : Int) : ng27.L0 N  0 x0 x1 x2 x9 x31 x32 x33 = none := by kernel_rfl
theorem ng27.S0_eqN (N : Nat)  (x0 : Int) (x1 : Int) (x2 : Int) (x9 : Int) : ng27.S0 (N + 1)  x0 x1 x2 x9 =
  Option.bind (ng42 (x9, (IntKind.i64.wrap ((IntKind.i64.wrap (x0 - x2)) * (IntKind.i64.wrap (x1 - x2)))), ())) fun y3 =>
  some (decide (y3 > (0 : Int))) := by kernel_rfl
theorem ng27.S0_eq  (x0 : Int) (x1 : Int) (x2 : Int) (x9 : Int) : ng27.S0 BIG  x0 x1 x2 x9 =
  Option.bind (ng42 (x9, (IntKind.i64.wrap ((IntKind.i64.wrap (x0 - x2)) * (IntKind.i64.wrap (x1 - x2)))), ())) fun y3 =>
  some (decide (y3 > (0 : Int))) := ng27.S0_eqN 18446744073709551615  x0 x1 x2 x9
noncomputable def ng27 (x : DenA ng27.A) : Option (DenR ng27.R) := ng27.N BIG x
noncomputable def ncon27 : Con := ⟨27, ng27.A, ng27.R, false, ng27, none⟩
theorem nsound27 : SoundC Try.prog Jn ncon27 :=
  sound_of (Γ := ng27.G) (tt := ntt) (cut := ng27.cut) (keep := ng27.keep) (boxes := [11]) ncon27 Try.f27 (fu := fun _ _ _ => BIG) ntt_ok Jn_keeps ((consS nsound28 (consS nsound42 noneS))) nmixed (by kernel_rfl) (by kernel_rfl) fun x r h => Eq.trans (b := Con.fn ncon27 x) (by kernel_rfl) h
/-! swarf/swarflaw39.NestConsistent$1 -/
noncomputable def ng25.G : List Con := []
def ng25.cut : Cuts := []
def ng25.keep : List Nat := [1, 2, 3]
@[reducible] def ng25.A : List ATy := [.v nY38, .pk (.int .i64)]
@[reducible] def ng25.R : List Ty := [.bool]
noncomputable def ng25.N (N : Nat) (x : DenA ng25.A) : Option (DenR ng25.R) := fnR ng25.G ntt ng25.cut ng25.keep [2] (fun _ _ => N) Try.f25 ng25.R false (encA ng25.A x)
theorem ng25.eq (N : Nat) (a0 : (Ty.den nY38)) (a1 : Int) : ng25.N N (a0, a1, ()) =
  some (a0.1 == a1) := by kernel_rfl
noncomputable def ng25 (x : DenA ng25.A) : Option (DenR ng25.R) := ng25.N BIG x
noncomputable def ncon25 : Con := ⟨25, ng25.A, ng25.R, false, ng25, none⟩
theorem nsound25 : SoundC Try.prog Jn ncon25 :=
  sound_of (Γ := ng25.G) (tt := ntt) (cut := ng25.cut) (keep := ng25.keep) (boxes := [2]) ncon25 Try.f25 (fu := fun _ _ _ => BIG) ntt_ok Jn_keeps (noneS) nmixed (by kernel_rfl) (by kernel_rfl) fun x r h => Eq.trans (b := Con.fn ncon25 x) (by kernel_rfl) h
/-! slices.IndexFunc[[]swarf/nest.Place,swarf/nest.Place] -/
noncomputable def ng41_25.G : List Con := [ncon25]
def ng41_25.cut : Cuts := [([0, 1, 0, 1], [0, 1, 7, 8], [])]
def ng41_25.keep : List Nat := [0, 1, 4, 5, 7, 8, 9, 16]
@[reducible] def ng41_25.A : List ATy := [.v (.sl nY38), .cl 25 [(true, (.int .i64))]]
@[reducible] def ng41_25.R : List Ty := [(.int .i64)]
noncomputable def ng41_25.N (N : Nat) (x : DenA ng41_25.A) : Option (DenR ng41_25.R) := fnR ng41_25.G ntt ng41_25.cut ng41_25.keep [] (fun _ _ => N) Try.f41 ng41_25.R false (encA ng41_25.A x)
noncomputable def ng41_25.L0 (N : Nat) (n : Nat) (x0 : (List (Ty.den nY38))) (x1_0 : Int) (x7 : Int) (x8 : Int) : Option (DenR ng41_25.R) := fromLoop ng41_25.G ntt ng41_25.cut ng41_25.keep (fun _ _ => N) (codeOf Try.f41) (retK ntt Try.f41 ng41_25.R false) [1, 0, 1, 0] [] n ⟨[(0, .val ⟨(.sl nY38), x0⟩ false), (1, .clo 25 [.peek ⟨(.int .i64), x1_0⟩]), (7, .val ⟨(.int .i64), x7⟩ false), (8, .val ⟨(.int .i64), x8⟩ false)], []⟩
theorem ng41_25.eq (N : Nat) (a0 : (List (Ty.den nY38))) (a1_0 : Int) : ng41_25.N N (a0, (a1_0, ()), ()) =
  ng41_25.L0 N N a0 a1_0 ((List.length a0 : Nat) : Int) (0 : Int) := by kernel_rfl
theorem ng41_25.L0_eq (N : Nat)  (n : Nat) (x0 : (List (Ty.den nY38))) (x1_0 : Int) (x7 : Int) (x8 : Int) : ng41_25.L0 N  (n + 1) x0 x1_0 x7 x8 =
  bif (decide (x8 < x7)) then
    Option.bind (idx x0 x8) fun r1 =>
    Option.bind (ng25 (r1, x1_0, ())) fun y2 =>
    bif y2 then
      some x8
    else
    ng41_25.L0 N n x0 x1_0 x7 (IntKind.i64.wrap (x8 + (1 : Int)))
  else
  some (-1 : Int) := by kernel_rfl
theorem ng41_25.L0_zero (N : Nat) (x0 : (List (Ty.den nY38))) (x1_0 : Int) (x7 : Int) (x8 : Int) : ng41_25.L0 N  0 x0 x1_0 x7 x8 = none := by kernel_rfl
noncomputable def ng41_25 (x : DenA ng41_25.A) : Option (DenR ng41_25.R) := ng41_25.N BIG x
noncomputable def ncon41_25 : Con := ⟨41, ng41_25.A, ng41_25.R, false, ng41_25, none⟩
theorem nsound41_25 : SoundC Try.prog Jn ncon41_25 :=
  sound_of (Γ := ng41_25.G) (tt := ntt) (cut := ng41_25.cut) (keep := ng41_25.keep) (boxes := []) ncon41_25 Try.f41 (fu := fun _ _ _ => BIG) ntt_ok Jn_keeps ((consS nsound25 noneS)) nmixed (by kernel_rfl) (by kernel_rfl) fun x r h => Eq.trans (b := Con.fn ncon41_25 x) (by kernel_rfl) h
/-! slices.ContainsFunc[[]swarf/nest.Place,swarf/nest.Place] -/
noncomputable def ng24_25.G : List Con := [ncon41_25]
def ng24_25.cut : Cuts := []
def ng24_25.keep : List Nat := [0, 1, 4]
@[reducible] def ng24_25.A : List ATy := [.v (.sl nY38), .cl 25 [(true, (.int .i64))]]
@[reducible] def ng24_25.R : List Ty := [.bool]
noncomputable def ng24_25.N (N : Nat) (x : DenA ng24_25.A) : Option (DenR ng24_25.R) := fnR ng24_25.G ntt ng24_25.cut ng24_25.keep [] (fun _ _ => N) Try.f24 ng24_25.R false (encA ng24_25.A x)
theorem ng24_25.eq (N : Nat) (a0 : (List (Ty.den nY38))) (a1_0 : Int) : ng24_25.N N (a0, (a1_0, ()), ()) =
  Option.bind (ng41_25 (a0, (a1_0, ()), ())) fun y1 =>
  some (decide (y1 ≥ (0 : Int))) := by kernel_rfl
noncomputable def ng24_25 (x : DenA ng24_25.A) : Option (DenR ng24_25.R) := ng24_25.N BIG x
noncomputable def ncon24_25 : Con := ⟨24, ng24_25.A, ng24_25.R, false, ng24_25, none⟩
theorem nsound24_25 : SoundC Try.prog Jn ncon24_25 :=
  sound_of (Γ := ng24_25.G) (tt := ntt) (cut := ng24_25.cut) (keep := ng24_25.keep) (boxes := []) ncon24_25 Try.f24 (fu := fun _ _ _ => BIG) ntt_ok Jn_keeps ((consS nsound41_25 noneS)) nmixed (by kernel_rfl) (by kernel_rfl) fun x r h => Eq.trans (b := Con.fn ncon24_25 x) (by kernel_rfl) h
end Go.Ev
