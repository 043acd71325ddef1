/-
  PRINTED by the generator of this repo (wip/gen/gen.py): functions of the program as plain Lean functions, with an equation for each part and the proof that the Go calls do what they tell.
-/
import Derived.Test.YthappjffpkpojaaNgC
import Derived.Test.YthappjffpkpojaaProg
import Derived.KernelRfl
namespace Go.Ev
open Go Go.Proofs
set_option linter.unusedVariables false
/-! swarf/swarflaw39.NestNest -/
noncomputable def ng3.G : List Con := [ncon7, ncon8, ncon10, ncon9, ncon11, ncon13, ncon12, ncon14]
def ng3.cut : Cuts := []
def ng3.keep : List Nat := [1, 2, 3, 4, 5, 6, 7, 8, 15]
@[reducible] def ng3.A : List ATy := [.v nY24]
@[reducible] def ng3.R : List Ty := [.bool]
noncomputable def ng3.N (N : Nat) (x : DenA ng3.A) : Option (DenR ng3.R) := fnR ng3.G ntt ng3.cut ng3.keep [1] (fun _ _ => N) Try.f3 ng3.R false (encA ng3.A x)
theorem ng3.eq (N : Nat) (a0 : (Ty.den nY24)) : ng3.N N (a0, ()) =
  Option.bind (ng7 ()) fun y1 =>
  bif (!y1) then
    Option.bind (ng7 ()) fun y2 =>
    some y2
  else
  Option.bind (ng8 (a0, ())) fun y3 =>
  bif (!y3) then
    Option.bind (ng7 ()) fun y4 =>
    some y4
  else
  Option.bind (ng10 (a0.2.2.2.1, ())) fun y5 =>
  Option.bind (ng9 (a0.1, a0.2.1, a0.2.2.1, y5, ())) fun y6 =>
  Option.bind (ng11 (a0.1, a0.2.1, a0.2.2.1, a0.2.2.2.1, ())) fun y7 =>
  bif (y6.2.2 == y7.2.2) then
    Option.bind (ng13 (y6.1, ())) fun y8 =>
    Option.bind (ng12 (y8, y7.1, ())) fun y9 =>
    bif y9 then
      Option.bind (ng14 (y6.2.1, y7.2.1, ())) fun y10 =>
      some y10
    else
    some false
  else
  some false := by kernel_rfl
noncomputable def ng3 (x : DenA ng3.A) : Option (DenR ng3.R) := ng3.N BIG x
noncomputable def ncon3 : Con := ⟨3, ng3.A, ng3.R, false, ng3, none⟩
theorem nsound3 : SoundC Try.prog Jn ncon3 :=
  sound_of (Γ := ng3.G) (tt := ntt) (cut := ng3.cut) (keep := ng3.keep) (boxes := [1]) ncon3 Try.f3 (fu := fun _ _ _ => BIG) ntt_ok Jn_keeps ((consS nsound7 (consS nsound8 (consS nsound10 (consS nsound9 (consS nsound11 (consS nsound13 (consS nsound12 (consS nsound14 noneS))))))))) nmixed (by kernel_rfl) (by kernel_rfl) fun x r h => Eq.trans (b := Con.fn ncon3 x) (by kernel_rfl) h
/-! swarf/swarflaw39.NestSpots -/
noncomputable def ng4.G : List Con := [ncon7, ncon8, ncon10, ncon17, ncon16, ncon18, ncon15]
def ng4.cut : Cuts := []
def ng4.keep : List Nat := [1, 2, 9]
@[reducible] def ng4.A : List ATy := [.v nY24]
@[reducible] def ng4.R : List Ty := [.bool]
noncomputable def ng4.N (N : Nat) (x : DenA ng4.A) : Option (DenR ng4.R) := fnR ng4.G ntt ng4.cut ng4.keep [1] (fun _ _ => N) Try.f4 ng4.R false (encA ng4.A x)
theorem ng4.eq (N : Nat) (a0 : (Ty.den nY24)) : ng4.N N (a0, ()) =
  Option.bind (ng7 ()) fun y1 =>
  bif (!y1) then
    Option.bind (ng7 ()) fun y2 =>
    some y2
  else
  Option.bind (ng8 (a0, ())) fun y3 =>
  bif (!y3) then
    Option.bind (ng7 ()) fun y4 =>
    some y4
  else
  Option.bind (ng10 (a0.2.2.2.1, ())) fun y5 =>
  Option.bind (ng17 (a0.2.2.2.2.1, ())) fun y6 =>
  Option.bind (ng16 (a0.1, a0.2.1, a0.2.2.1, y5, y6, ())) fun y7 =>
  Option.bind (ng18 (a0.1, a0.2.1, a0.2.2.1, a0.2.2.2.1, a0.2.2.2.2.1, ())) fun y8 =>
  Option.bind (ng15 (y7, y8, ())) fun y9 =>
  some y9 := by kernel_rfl
noncomputable def ng4 (x : DenA ng4.A) : Option (DenR ng4.R) := ng4.N BIG x
noncomputable def ncon4 : Con := ⟨4, ng4.A, ng4.R, false, ng4, none⟩
theorem nsound4 : SoundC Try.prog Jn ncon4 :=
  sound_of (Γ := ng4.G) (tt := ntt) (cut := ng4.cut) (keep := ng4.keep) (boxes := [1]) ncon4 Try.f4 (fu := fun _ _ _ => BIG) ntt_ok Jn_keeps ((consS nsound7 (consS nsound8 (consS nsound10 (consS nsound17 (consS nsound16 (consS nsound18 (consS nsound15 noneS)))))))) nmixed (by kernel_rfl) (by kernel_rfl) fun x r h => Eq.trans (b := Con.fn ncon4 x) (by kernel_rfl) h
/-! swarf/swarflaw39.NestValid -/
noncomputable def ng5.G : List Con := [ncon7, ncon8, ncon10, ncon17, ncon19, ncon20, ncon21, ncon22]
def ng5.cut : Cuts := []
def ng5.keep : List Nat := [2, 3, 4, 5, 6, 13, 41]
@[reducible] def ng5.A : List ATy := [.v nY24, .v nY38]
@[reducible] def ng5.R : List Ty := [.bool]
noncomputable def ng5.N (N : Nat) (x : DenA ng5.A) : Option (DenR ng5.R) := fnR ng5.G ntt ng5.cut ng5.keep [2, 3] (fun _ _ => N) Try.f5 ng5.R false (encA ng5.A x)
theorem ng5.eq (N : Nat) (a0 : (Ty.den nY24)) (a1 : (Ty.den nY38)) : ng5.N N (a0, a1, ()) =
  Option.bind (ng7 ()) fun y1 =>
  bif (!y1) then
    Option.bind (ng7 ()) fun y2 =>
    some y2
  else
  Option.bind (ng8 (a0, ())) fun y3 =>
  bif (!y3) then
    Option.bind (ng7 ()) fun y4 =>
    some y4
  else
  Option.bind (ng10 (a0.2.2.2.1, ())) fun y5 =>
  Option.bind (ng17 (a0.2.2.2.2.1, ())) fun y6 =>
  Option.bind (ng19 (a0.1, a0.2.1, a0.2.2.1, y5, y6, ())) fun y7 =>
  Option.bind (ng20 (a0.1, a0.2.1, a0.2.2.1, a0.2.2.2.1, a0.2.2.2.2.1, ())) fun y8 =>
  bif (!(y7 == y8)) then
    some false
  else
  Option.bind (ng17 ([a1], ())) fun y9 =>
  Option.bind (idx y9 (0 : Int)) fun r10 =>
  Option.bind (ng21 (a0.1, a0.2.1, a0.2.2.1, y5, y6, r10, ())) fun y11 =>
  Option.bind (ng22 (a0.1, a0.2.1, a0.2.2.1, a0.2.2.2.1, a0.2.2.2.2.1, a1, ())) fun y12 =>
  some (y11 == y12) := by kernel_rfl
noncomputable def ng5 (x : DenA ng5.A) : Option (DenR ng5.R) := ng5.N BIG x
noncomputable def ncon5 : Con := ⟨5, ng5.A, ng5.R, false, ng5, none⟩
theorem nsound5 : SoundC Try.prog Jn ncon5 :=
  sound_of (Γ := ng5.G) (tt := ntt) (cut := ng5.cut) (keep := ng5.keep) (boxes := [2, 3]) ncon5 Try.f5 (fu := fun _ _ _ => BIG) ntt_ok Jn_keeps ((consS nsound7 (consS nsound8 (consS nsound10 (consS nsound17 (consS nsound19 (consS nsound20 (consS nsound21 (consS nsound22 noneS))))))))) nmixed (by kernel_rfl) (by kernel_rfl) fun x r h => Eq.trans (b := Con.fn ncon5 x) (by kernel_rfl) h
/-! swarf/swarflaw39.NestConsistent -/
noncomputable def ng6.G : List Con := [ncon7, ncon8, ncon10, ncon9, ncon23, ncon13, ncon20, ncon24_25, ncon16, ncon21]
def ng6.cut : Cuts := [([0, 1, 0, 1, 1, 1, 1, 1, 1], [1, 3, 4, 68, 69, 70], [1]), ([0, 1, 1, 1, 0, 0, 1, 1, 0, 0, 1, 0, 1, 1, 1, 1, 1, 1], [1, 3, 4, 8, 68, 69, 70, 85, 86, 87], [1, 8])]
def ng6.keep : List Nat := [1, 2, 3, 4, 5, 6, 8, 10, 17, 35, 67, 68, 69, 70, 71, 76, 85, 86, 87, 88, 122]
@[reducible] def ng6.A : List ATy := [.v nY24]
@[reducible] def ng6.R : List Ty := [.bool]
noncomputable def ng6.N (N : Nat) (x : DenA ng6.A) : Option (DenR ng6.R) := fnR ng6.G ntt ng6.cut ng6.keep [1, 8, 10] (fun _ _ => N) Try.f6 ng6.R false (encA ng6.A x)
noncomputable def ng6.L0 (N : Nat) (n : Nat) (x3 : (List (Ty.den nY44))) (x4 : (List (Ty.den nY38))) (x68 : (List Int)) (x69 : Int) (x70 : Int) (b1 : (Ty.den nY24)) : Option (DenR ng6.R) := fromLoop ng6.G ntt ng6.cut ng6.keep (fun _ _ => N) (codeOf Try.f6) (retK ntt Try.f6 ng6.R false) [1, 1, 1, 1, 1, 1, 0, 1, 0] [] n ⟨[(1, .ref 1 0), (3, .val ⟨(.sl nY44), x3⟩ true), (4, .val ⟨(.sl nY38), x4⟩ false), (68, .val ⟨(.sl (.int .i64)), x68⟩ false), (69, .val ⟨(.int .i64), x69⟩ false), (70, .val ⟨(.int .i64), x70⟩ false)], [(1, ⟨nY24, b1, []⟩)]⟩
noncomputable def ng6.L1 (N : Nat) (n0 : Nat) (n : Nat) (x3 : (List (Ty.den nY44))) (x4 : (List (Ty.den nY38))) (x68 : (List Int)) (x69 : Int) (x70 : Int) (x85 : (List (Ty.den nY44))) (x86 : Int) (x87 : Int) (b1 : (Ty.den nY24)) (b8 : Int) : Option (DenR ng6.R) := fromLoop ng6.G ntt ng6.cut ng6.keep (fun _ _ => N) (codeOf Try.f6) (retK ntt Try.f6 ng6.R false) [1, 1, 1, 1, 1, 1, 0, 1, 0, 0, 1, 1, 0, 0, 1, 1, 1, 0] [n0] n ⟨[(1, .ref 1 0), (3, .val ⟨(.sl nY44), x3⟩ true), (4, .val ⟨(.sl nY38), x4⟩ false), (8, .ref 8 0), (68, .val ⟨(.sl (.int .i64)), x68⟩ false), (69, .val ⟨(.int .i64), x69⟩ false), (70, .val ⟨(.int .i64), x70⟩ false), (85, .val ⟨(.sl nY44), x85⟩ false), (86, .val ⟨(.int .i64), x86⟩ false), (87, .val ⟨(.int .i64), x87⟩ false)], [(1, ⟨nY24, b1, []⟩), (8, ⟨(.int .i64), b8, []⟩)]⟩
theorem ng6.eq (N : Nat) (a0 : (Ty.den nY24)) : ng6.N N (a0, ()) =
  Option.bind (ng7 ()) fun y1 =>
  bif (!y1) then
    Option.bind (ng7 ()) fun y2 =>
    some y2
  else
  Option.bind (ng8 (a0, ())) fun y3 =>
  bif (!y3) then
    Option.bind (ng7 ()) fun y4 =>
    some y4
  else
  Option.bind (ng10 (a0.2.2.2.1, ())) fun y5 =>
  Option.bind (ng9 (a0.1, a0.2.1, a0.2.2.1, y5, ())) fun y6 =>
  bif (y6.2.2 != (0 : Int)) then
    Option.bind (ng23 (a0.1, a0.2.1, a0.2.2.1, a0.2.2.2.1, ())) fun y7 =>
    some (!y7)
  else
  Option.bind (ng13 (y6.1, ())) fun y8 =>
  Option.bind (ng20 (a0.1, a0.2.1, a0.2.2.1, a0.2.2.2.1, y8, ())) fun y9 =>
  bif (!y9) then
    some false
  else
  bif ((IntKind.i64.wrap (((List.length y6.1 : Nat) : Int) + ((List.length y6.2.1 : Nat) : Int))) != ((List.length y5 : Nat) : Int)) then
    some false
  else
  ng6.L0 N N y5 y6.1 y6.2.1 ((List.length y6.2.1 : Nat) : Int) (0 : Int) a0 := by kernel_rfl
theorem ng6.L0_eq (N : Nat)  (n : Nat) (x3 : (List (Ty.den nY44))) (x4 : (List (Ty.den nY38))) (x68 : (List Int)) (x69 : Int) (x70 : Int) (b1 : (Ty.den nY24)) : ng6.L0 N  (n + 1) x3 x4 x68 x69 x70 b1 =
  bif (decide (x70 < x69)) then
    Option.bind (idx x68 x70) fun r10 =>
    Option.bind (ng24_25 (x4, (r10, ()), ())) fun y11 =>
    bif y11 then
      some false
    else
    Option.bind (ng16 (b1.1, b1.2.1, b1.2.2.1, x3, x4, ())) fun y12 =>
    ng6.L1 N n N x3 x4 x68 x69 x70 y12 ((List.length y12 : Nat) : Int) (0 : Int) b1 r10
  else
  some true := by kernel_rfl
theorem ng6.L0_zero (N : Nat) (x3 : (List (Ty.den nY44))) (x4 : (List (Ty.den nY38))) (x68 : (List Int)) (x69 : Int) (x70 : Int) (b1 : (Ty.den nY24)) : ng6.L0 N  0 x3 x4 x68 x69 x70 b1 = none := by kernel_rfl
theorem ng6.L1_eq (N : Nat) (n0 : Nat) (n : Nat) (x3 : (List (Ty.den nY44))) (x4 : (List (Ty.den nY38))) (x68 : (List Int)) (x69 : Int) (x70 : Int) (x85 : (List (Ty.den nY44))) (x86 : Int) (x87 : Int) (b1 : (Ty.den nY24)) (b8 : Int) : ng6.L1 N n0 (n + 1) x3 x4 x68 x69 x70 x85 x86 x87 b1 b8 =
  bif (decide (x87 < x86)) then
    Option.bind (idx x85 x87) fun r13 =>
    Option.bind (ng21 (b1.1, b1.2.1, b1.2.2.1, x3, x4, (b8, r13.1, r13.2.1, false, ()), ())) fun y14 =>
    bif y14 then
      some false
    else
    Option.bind (ng21 (b1.1, b1.2.1, b1.2.2.1, x3, x4, (b8, r13.1, r13.2.1, true, ()), ())) fun y15 =>
    bif y15 then
      some false
    else
    ng6.L1 N n0 n x3 x4 x68 x69 x70 x85 x86 (IntKind.i64.wrap (x87 + (1 : Int))) b1 b8
  else
  ng6.L0 N n0 x3 x4 x68 x69 (IntKind.i64.wrap (x70 + (1 : Int))) b1 := by kernel_rfl
theorem ng6.L1_zero (N : Nat) (n0 : Nat) (x3 : (List (Ty.den nY44))) (x4 : (List (Ty.den nY38))) (x68 : (List Int)) (x69 : Int) (x70 : Int) (x85 : (List (Ty.den nY44))) (x86 : Int) (x87 : Int) (b1 : (Ty.den nY24)) (b8 : Int) : ng6.L1 N n0 0 x3 x4 x68 x69 x70 x85 x86 x87 b1 b8 = none := by kernel_rfl
noncomputable def ng6 (x : DenA ng6.A) : Option (DenR ng6.R) := ng6.N BIG x
noncomputable def ncon6 : Con := ⟨6, ng6.A, ng6.R, false, ng6, none⟩
theorem nsound6 : SoundC Try.prog Jn ncon6 :=
  sound_of (Γ := ng6.G) (tt := ntt) (cut := ng6.cut) (keep := ng6.keep) (boxes := [1, 8, 10]) ncon6 Try.f6 (fu := fun _ _ _ => BIG) ntt_ok Jn_keeps ((consS nsound7 (consS nsound8 (consS nsound10 (consS nsound9 (consS nsound23 (consS nsound13 (consS nsound20 (consS nsound24_25 (consS nsound16 (consS nsound21 noneS))))))))))) nmixed (by kernel_rfl) (by kernel_rfl) fun x r h => Eq.trans (b := Con.fn ncon6 x) (by kernel_rfl) h
end Go.Ev
