/-
  PRINTED by the generator of this repo (wip/gen/gen.py): functions of the program as plain Lean functions, with an equation for each part and the proof that the Go calls do what they tell.
-/
import Derived.Test.YthappjffpkpojaaNgB
import Derived.Test.YthappjffpkpojaaProg
import Derived.KernelRfl
namespace Go.Ev
open Go Go.Proofs
set_option linter.unusedVariables false
/-! swarf/swarflaw39.awake -/
noncomputable def ng7.G : List Con := [ncon9, ncon26, ncon14, ncon27]
def ng7.cut : Cuts := []
def ng7.keep : List Nat := [0, 1, 2, 3, 4]
@[reducible] def ng7.A : List ATy := []
@[reducible] def ng7.R : List Ty := [.bool]
noncomputable def ng7.N (N : Nat) (x : DenA ng7.A) : Option (DenR ng7.R) := fnR ng7.G ntt ng7.cut ng7.keep [] (fun _ _ => N) Try.f7 ng7.R false (encA ng7.A x)
theorem ng7.eq (N : Nat)  : ng7.N N () =
  Option.bind (ng9 ((100 : Int), (60 : Int), (5 : Int), [((40 : Int), (30 : Int), ()), ((40 : Int), (30 : Int), ()), ((20 : Int), (45 : Int), ()), ((80 : Int), (15 : Int), ())], ())) fun y1 =>
  bif (y1.2.2 == (0 : Int)) then
    Option.bind (ng26 (y1.1, [((0 : Int), (5 : Int), (5 : Int), false, ()), ((1 : Int), (50 : Int), (5 : Int), false, ()), ((3 : Int), (5 : Int), (40 : Int), false, ())], ())) fun y2 =>
    bif y2 then
      Option.bind (ng14 (y1.2.1, [(2 : Int)], ())) fun y3 =>
      bif y3 then
        bif (decide (0 ≤ (2 : Int)) && decide ((2 : Int) ≤ (2 : Int)) && decide ((2 : Int) ≤ ((List.length [((40 : Int), (30 : Int), ()), ((40 : Int), (30 : Int), ()), ((20 : Int), (45 : Int), ()), ((80 : Int), (15 : Int), ())] : Nat) : Int))) then
          Option.bind (idx [((40 : Int), (30 : Int), ()), ((40 : Int), (30 : Int), ()), ((20 : Int), (45 : Int), ()), ((80 : Int), (15 : Int), ())] (3 : Int)) fun r4 =>
          bif (decide (List.length (List.take (Int.toNat (2 : Int)) [((40 : Int), (30 : Int), ()), ((40 : Int), (30 : Int), ()), ((20 : Int), (45 : Int), ()), ((80 : Int), (15 : Int), ())]) + List.length ([r4] : (List (Ty.den nY44))) ≤ most)) then
            Option.bind (ng27 ((100 : Int), (60 : Int), (5 : Int), ((List.take (Int.toNat (2 : Int)) [((40 : Int), (30 : Int), ()), ((40 : Int), (30 : Int), ()), ((20 : Int), (45 : Int), ()), ((80 : Int), (15 : Int), ())]) ++ ([r4] : (List (Ty.den nY44)))), ())) fun y5 =>
            some (!y5)
          else
          none
        else
        none
      else
      some false
    else
    some false
  else
  some false := by kernel_rfl
noncomputable def ng7 (x : DenA ng7.A) : Option (DenR ng7.R) := ng7.N BIG x
noncomputable def ncon7 : Con := ⟨7, ng7.A, ng7.R, false, ng7, none⟩
theorem nsound7 : SoundC Try.prog Jn ncon7 :=
  sound_of (Γ := ng7.G) (tt := ntt) (cut := ng7.cut) (keep := ng7.keep) (boxes := []) ncon7 Try.f7 (fu := fun _ _ _ => BIG) ntt_ok Jn_keeps ((consS nsound9 (consS nsound26 (consS nsound14 (consS nsound27 noneS))))) nmixed (by kernel_rfl) (by kernel_rfl) fun x r h => Eq.trans (b := Con.fn ncon7 x) (by kernel_rfl) h
/-! swarf/swarflaw39.few -/
noncomputable def ng8.G : List Con := []
def ng8.cut : Cuts := []
def ng8.keep : List Nat := [1, 2]
@[reducible] def ng8.A : List ATy := [.v nY24]
@[reducible] def ng8.R : List Ty := [.bool]
noncomputable def ng8.N (N : Nat) (x : DenA ng8.A) : Option (DenR ng8.R) := fnR ng8.G ntt ng8.cut ng8.keep [1] (fun _ _ => N) Try.f8 ng8.R false (encA ng8.A x)
theorem ng8.eq (N : Nat) (a0 : (Ty.den nY24)) : ng8.N N (a0, ()) =
  bif (decide (((List.length a0.2.2.2.1 : Nat) : Int) ≤ (8 : Int))) then
    some (decide (((List.length a0.2.2.2.2.1 : Nat) : Int) ≤ (8 : Int)))
  else
  bif (decide (((List.length a0.2.2.2.1 : Nat) : Int) > (50 : Int))) then
    bif (decide (((List.length a0.2.2.2.1 : Nat) : Int) < (60 : Int))) then
      some (decide (((List.length a0.2.2.2.2.1 : Nat) : Int) ≤ (8 : Int)))
    else
    some false
  else
  some false := by kernel_rfl
noncomputable def ng8 (x : DenA ng8.A) : Option (DenR ng8.R) := ng8.N BIG x
noncomputable def ncon8 : Con := ⟨8, ng8.A, ng8.R, false, ng8, none⟩
theorem nsound8 : SoundC Try.prog Jn ncon8 :=
  sound_of (Γ := ng8.G) (tt := ntt) (cut := ng8.cut) (keep := ng8.keep) (boxes := [1]) ncon8 Try.f8 (fu := fun _ _ _ => BIG) ntt_ok Jn_keeps (noneS) nmixed (by kernel_rfl) (by kernel_rfl) fun x r h => Eq.trans (b := Con.fn ncon8 x) (by kernel_rfl) h
/-! swarf/swarflaw39.items -/
noncomputable def ng10.G : List Con := []
def ng10.cut : Cuts := [([0, 1, 0, 1, 1], [3, 6, 7, 8], [])]
def ng10.keep : List Nat := [0, 2, 3, 5, 6, 7, 8, 9]
@[reducible] def ng10.A : List ATy := [.v (.sl nY44)]
@[reducible] def ng10.R : List Ty := [(.sl nY44)]
noncomputable def ng10.N (N : Nat) (x : DenA ng10.A) : Option (DenR ng10.R) := fnR ng10.G ntt ng10.cut ng10.keep [5] (fun _ _ => N) Try.f10 ng10.R true (encA ng10.A x)
noncomputable def ng10.L0 (N : Nat) (n : Nat) (x3 : (List (Ty.den nY44))) (x6 : (List (Ty.den nY44))) (x7 : Int) (x8 : Int) : Option (DenR ng10.R) := fromLoop ng10.G ntt ng10.cut ng10.keep (fun _ _ => N) (codeOf Try.f10) (retK ntt Try.f10 ng10.R true) [1, 1, 0, 1, 0] [] n ⟨[(3, .val ⟨(.sl nY44), x3⟩ true), (6, .val ⟨(.sl nY44), x6⟩ false), (7, .val ⟨(.int .i64), x7⟩ false), (8, .val ⟨(.int .i64), x8⟩ false)], []⟩
theorem ng10.eq (N : Nat) (a0 : (List (Ty.den nY44))) : ng10.N N (a0, ()) =
  ng10.L0 N N [] a0 ((List.length a0 : Nat) : Int) (0 : Int) := by kernel_rfl
theorem ng10.L0_eq (N : Nat)  (n : Nat) (x3 : (List (Ty.den nY44))) (x6 : (List (Ty.den nY44))) (x7 : Int) (x8 : Int) : ng10.L0 N  (n + 1) x3 x6 x7 x8 =
  bif (decide (x8 < x7)) then
    Option.bind (idx x6 x8) fun r1 =>
    bif (decide (List.length x3 + List.length ([(r1.1, r1.2.1, ())] : (List (Ty.den nY44))) ≤ most)) then
      ng10.L0 N n (x3 ++ ([(r1.1, r1.2.1, ())] : (List (Ty.den nY44)))) x6 x7 (IntKind.i64.wrap (x8 + (1 : Int)))
    else
    none
  else
  some x3 := by kernel_rfl
theorem ng10.L0_zero (N : Nat) (x3 : (List (Ty.den nY44))) (x6 : (List (Ty.den nY44))) (x7 : Int) (x8 : Int) : ng10.L0 N  0 x3 x6 x7 x8 = none := by kernel_rfl
noncomputable def ng10 (x : DenA ng10.A) : Option (DenR ng10.R) := ng10.N BIG x
noncomputable def ncon10 : Con := ⟨10, ng10.A, ng10.R, true, ng10, none⟩
theorem nsound10 : SoundC Try.prog Jn ncon10 :=
  sound_of (Γ := ng10.G) (tt := ntt) (cut := ng10.cut) (keep := ng10.keep) (boxes := [5]) ncon10 Try.f10 (fu := fun _ _ _ => BIG) ntt_ok Jn_keeps (noneS) nmixed (by kernel_rfl) (by kernel_rfl) fun x r h => Eq.trans (b := Con.fn ncon10 x) (by kernel_rfl) h
/-! swarf/swarfref39.length -/
noncomputable def ng40.G : List Con := []
def ng40.cut : Cuts := []
def ng40.keep : List Nat := [0, 2]
@[reducible] def ng40.A : List ATy := [.v (.int .i64)]
@[reducible] def ng40.R : List Ty := [.bool]
noncomputable def ng40.N (N : Nat) (x : DenA ng40.A) : Option (DenR ng40.R) := fnR ng40.G ntt ng40.cut ng40.keep [] (fun _ _ => N) Try.f40 ng40.R false (encA ng40.A x)
theorem ng40.eq (N : Nat) (a0 : Int) : ng40.N N (a0, ()) =
  bif (decide (a0 ≥ (1 : Int))) then
    some (decide (a0 ≤ (10000000 : Int)))
  else
  some false := by kernel_rfl
noncomputable def ng40 (x : DenA ng40.A) : Option (DenR ng40.R) := ng40.N BIG x
noncomputable def ncon40 : Con := ⟨40, ng40.A, ng40.R, false, ng40, none⟩
theorem nsound40 : SoundC Try.prog Jn ncon40 :=
  sound_of (Γ := ng40.G) (tt := ntt) (cut := ng40.cut) (keep := ng40.keep) (boxes := []) ncon40 Try.f40 (fu := fun _ _ _ => BIG) ntt_ok Jn_keeps (noneS) nmixed (by kernel_rfl) (by kernel_rfl) fun x r h => Eq.trans (b := Con.fn ncon40 x) (by kernel_rfl) h
/-! swarf/swarfref39.Admissible -/
noncomputable def ng23.G : List Con := [ncon40]
def ng23.cut : Cuts := [([0, 1, 0, 1, 1], [3, 9], [])]
def ng23.keep : List Nat := [0, 1, 2, 3, 8, 9, 30, 34, 52]
@[reducible] def ng23.A : List ATy := [.v (.int .i64), .v (.int .i64), .v (.int .i64), .v (.sl nY44)]
@[reducible] def ng23.R : List Ty := [.bool]
noncomputable def ng23.N (N : Nat) (x : DenA ng23.A) : Option (DenR ng23.R) := fnR ng23.G ntt ng23.cut ng23.keep [] (fun _ _ => N) Try.f23 ng23.R false (encA ng23.A x)
noncomputable def ng23.L0 (N : Nat) (n : Nat) (x3 : (List (Ty.den nY44))) (x9 : Int) : Option (DenR ng23.R) := fromLoop ng23.G ntt ng23.cut ng23.keep (fun _ _ => N) (codeOf Try.f23) (retK ntt Try.f23 ng23.R false) [1, 1, 0, 1, 0] [] n ⟨[(3, .val ⟨(.sl nY44), x3⟩ false), (9, .val ⟨(.int .i64), x9⟩ false)], []⟩
theorem ng23.eq (N : Nat) (a0 : Int) (a1 : Int) (a2 : Int) (a3 : (List (Ty.den nY44))) : ng23.N N (a0, a1, a2, a3, ()) =
  Option.bind (ng40 (a0, ())) fun y1 =>
  bif (!y1) then
    some false
  else
  Option.bind (ng40 (a1, ())) fun y2 =>
  bif (!y2) then
    some false
  else
  bif (decide (a2 < (0 : Int))) then
    some false
  else
  bif (decide (a2 > (10000000 : Int))) then
    some false
  else
  bif (decide (((List.length a3 : Nat) : Int) > (50 : Int))) then
    some false
  else
  ng23.L0 N N a3 (0 : Int) := by kernel_rfl
theorem ng23.L0_eq (N : Nat)  (n : Nat) (x3 : (List (Ty.den nY44))) (x9 : Int) : ng23.L0 N  (n + 1) x3 x9 =
  bif (decide (x9 < ((List.length x3 : Nat) : Int))) then
    Option.bind (idx x3 x9) fun r3 =>
    Option.bind (ng40 (r3.1, ())) fun y4 =>
    bif (!y4) then
      some false
    else
    Option.bind (idx x3 x9) fun r5 =>
    Option.bind (ng40 (r5.2.1, ())) fun y6 =>
    bif (!y6) then
      some false
    else
    ng23.L0 N n x3 (IntKind.i64.wrap (x9 + (1 : Int)))
  else
  some true := by kernel_rfl
theorem ng23.L0_zero (N : Nat) (x3 : (List (Ty.den nY44))) (x9 : Int) : ng23.L0 N  0 x3 x9 = none := by kernel_rfl
noncomputable def ng23 (x : DenA ng23.A) : Option (DenR ng23.R) := ng23.N BIG x
noncomputable def ncon23 : Con := ⟨23, ng23.A, ng23.R, false, ng23, none⟩
theorem nsound23 : SoundC Try.prog Jn ncon23 :=
  sound_of (Γ := ng23.G) (tt := ntt) (cut := ng23.cut) (keep := ng23.keep) (boxes := []) ncon23 Try.f23 (fu := fun _ _ _ => BIG) ntt_ok Jn_keeps ((consS nsound40 noneS)) nmixed (by kernel_rfl) (by kernel_rfl) fun x r h => Eq.trans (b := Con.fn ncon23 x) (by kernel_rfl) h
/-! swarf/swarfref39.far -/
noncomputable def ng38.G : List Con := []
def ng38.cut : Cuts := []
def ng38.keep : List Nat := [0, 2]
@[reducible] def ng38.A : List ATy := [.v (.int .i64)]
@[reducible] def ng38.R : List Ty := [.bool]
noncomputable def ng38.N (N : Nat) (x : DenA ng38.A) : Option (DenR ng38.R) := fnR ng38.G ntt ng38.cut ng38.keep [] (fun _ _ => N) Try.f38 ng38.R false (encA ng38.A x)
theorem ng38.eq (N : Nat) (a0 : Int) : ng38.N N (a0, ()) =
  bif (decide (a0 < (0 : Int))) then
    some true
  else
  some (decide (a0 > (10000000 : Int))) := by kernel_rfl
noncomputable def ng38 (x : DenA ng38.A) : Option (DenR ng38.R) := ng38.N BIG x
noncomputable def ncon38 : Con := ⟨38, ng38.A, ng38.R, false, ng38, none⟩
theorem nsound38 : SoundC Try.prog Jn ncon38 :=
  sound_of (Γ := ng38.G) (tt := ntt) (cut := ng38.cut) (keep := ng38.keep) (boxes := []) ncon38 Try.f38 (fu := fun _ _ _ => BIG) ntt_ok Jn_keeps (noneS) nmixed (by kernel_rfl) (by kernel_rfl) fun x r h => Eq.trans (b := Con.fn ncon38 x) (by kernel_rfl) h
/-! swarf/swarfref39.size -/
noncomputable def ng34.G : List Con := []
def ng34.cut : Cuts := []
def ng34.keep : List Nat := [0, 3, 4, 5, 7]
@[reducible] def ng34.A : List ATy := [.v (.sl nY44), .v nY38]
@[reducible] def ng34.R : List Ty := [(.int .i64), (.int .i64)]
noncomputable def ng34.N (N : Nat) (x : DenA ng34.A) : Option (DenR ng34.R) := fnR ng34.G ntt ng34.cut ng34.keep [3] (fun _ _ => N) Try.f34 ng34.R false (encA ng34.A x)
theorem ng34.eq (N : Nat) (a0 : (List (Ty.den nY44))) (a1 : (Ty.den nY38)) : ng34.N N (a0, a1, ()) =
  bif a1.2.2.2.1 then
    Option.bind (idx a0 a1.1) fun r1 =>
    Option.bind (idx a0 a1.1) fun r2 =>
    some (r1.2.1, r2.1)
  else
  Option.bind (idx a0 a1.1) fun r3 =>
  Option.bind (idx a0 a1.1) fun r4 =>
  some (r3.1, r4.2.1) := by kernel_rfl
noncomputable def ng34 (x : DenA ng34.A) : Option (DenR ng34.R) := ng34.N BIG x
noncomputable def ncon34 : Con := ⟨34, ng34.A, ng34.R, false, ng34, none⟩
theorem nsound34 : SoundC Try.prog Jn ncon34 :=
  sound_of (Γ := ng34.G) (tt := ntt) (cut := ng34.cut) (keep := ng34.keep) (boxes := [3]) ncon34 Try.f34 (fu := fun _ _ _ => BIG) ntt_ok Jn_keeps (noneS) nmixed (by kernel_rfl) (by kernel_rfl) fun x r h => Eq.trans (b := Con.fn ncon34 x) (by kernel_rfl) h
/-! swarf/swarfref39.Valid -/
noncomputable def ng20.G : List Con := [ncon23, ncon38, ncon34]
def ng20.cut : Cuts := [([0, 1, 0, 1, 1], [0, 1, 2, 3, 4, 11], []), ([0, 1, 1, 1, 1, 0, 0, 1, 0, 0, 1, 0, 1, 1], [0, 1, 2, 3, 4, 11, 12, 13, 14], []), ([1, 0, 0, 1, 1, 1, 1, 0, 0, 1, 0, 0, 1, 0, 1, 1], [0, 1, 2, 3, 4, 11, 12, 13, 14], []), ([1, 0, 0, 1, 0, 1, 1], [0, 1, 2, 3, 4, 11], [])]
def ng20.keep : List Nat := [0, 1, 2, 3, 4, 10, 11, 12, 13, 14, 15, 16, 17, 18, 24, 28, 62, 113, 116, 210]
@[reducible] def ng20.A : List ATy := [.v (.int .i64), .v (.int .i64), .v (.int .i64), .v (.sl nY44), .v (.sl nY38)]
@[reducible] def ng20.R : List Ty := [.bool]
noncomputable def ng20.N (N : Nat) (x : DenA ng20.A) : Option (DenR ng20.R) := fnR ng20.G ntt ng20.cut ng20.keep [] (fun _ _ => N) Try.f20 ng20.R false (encA ng20.A x)
noncomputable def ng20.L0 (N : Nat) (n : Nat) (x0 : Int) (x1 : Int) (x2 : Int) (x3 : (List (Ty.den nY44))) (x4 : (List (Ty.den nY38))) (x11 : Int) : Option (DenR ng20.R) := fromLoop ng20.G ntt ng20.cut ng20.keep (fun _ _ => N) (codeOf Try.f20) (retK ntt Try.f20 ng20.R false) [1, 1, 0, 1, 0] [] n ⟨[(0, .val ⟨(.int .i64), x0⟩ false), (1, .val ⟨(.int .i64), x1⟩ false), (2, .val ⟨(.int .i64), x2⟩ false), (3, .val ⟨(.sl nY44), x3⟩ false), (4, .val ⟨(.sl nY38), x4⟩ false), (11, .val ⟨(.int .i64), x11⟩ false)], []⟩
noncomputable def ng20.L1 (N : Nat) (n0 : Nat) (n : Nat) (x0 : Int) (x1 : Int) (x2 : Int) (x3 : (List (Ty.den nY44))) (x4 : (List (Ty.den nY38))) (x11 : Int) (x12 : Int) (x13 : Int) (x14 : Int) : Option (DenR ng20.R) := fromLoop ng20.G ntt ng20.cut ng20.keep (fun _ _ => N) (codeOf Try.f20) (retK ntt Try.f20 ng20.R false) [1, 1, 0, 1, 0, 0, 1, 0, 0, 1, 1, 1, 1, 0] [n0] n ⟨[(0, .val ⟨(.int .i64), x0⟩ false), (1, .val ⟨(.int .i64), x1⟩ false), (2, .val ⟨(.int .i64), x2⟩ false), (3, .val ⟨(.sl nY44), x3⟩ false), (4, .val ⟨(.sl nY38), x4⟩ false), (11, .val ⟨(.int .i64), x11⟩ false), (12, .val ⟨(.int .i64), x12⟩ false), (13, .val ⟨(.int .i64), x13⟩ false), (14, .val ⟨(.int .i64), x14⟩ false)], []⟩
noncomputable def ng20.S0 (N : Nat) (n0 : Nat) (n1 : Nat) (x0 : Int) (x1 : Int) (x2 : Int) (x3 : (List (Ty.den nY44))) (x4 : (List (Ty.den nY38))) (x11 : Int) (x12 : Int) (x13 : Int) (x14 : Int) : Option (DenR ng20.R) := fromSeq ng20.G ntt ng20.cut ng20.keep (fun _ _ => N) (codeOf Try.f20) (retK ntt Try.f20 ng20.R false) [1, 1, 0, 1, 0, 0, 1, 0, 0, 1, 1, 1, 1, 0, 0, 1] [n0, n1] ⟨[(0, .val ⟨(.int .i64), x0⟩ false), (1, .val ⟨(.int .i64), x1⟩ false), (2, .val ⟨(.int .i64), x2⟩ false), (3, .val ⟨(.sl nY44), x3⟩ false), (4, .val ⟨(.sl nY38), x4⟩ false), (11, .val ⟨(.int .i64), x11⟩ false), (12, .val ⟨(.int .i64), x12⟩ false), (13, .val ⟨(.int .i64), x13⟩ false), (14, .val ⟨(.int .i64), x14⟩ false)], []⟩
noncomputable def ng20.S1 (N : Nat) (n0 : Nat) (x0 : Int) (x1 : Int) (x2 : Int) (x3 : (List (Ty.den nY44))) (x4 : (List (Ty.den nY38))) (x11 : Int) : Option (DenR ng20.R) := fromSeq ng20.G ntt ng20.cut ng20.keep (fun _ _ => N) (codeOf Try.f20) (retK ntt Try.f20 ng20.R false) [1, 1, 0, 1, 0, 0, 1] [n0] ⟨[(0, .val ⟨(.int .i64), x0⟩ false), (1, .val ⟨(.int .i64), x1⟩ false), (2, .val ⟨(.int .i64), x2⟩ false), (3, .val ⟨(.sl nY44), x3⟩ false), (4, .val ⟨(.sl nY38), x4⟩ false), (11, .val ⟨(.int .i64), x11⟩ false)], []⟩
theorem ng20.eq (N : Nat) (a0 : Int) (a1 : Int) (a2 : Int) (a3 : (List (Ty.den nY44))) (a4 : (List (Ty.den nY38))) : ng20.N N (a0, a1, a2, a3, a4, ()) =
  Option.bind (ng23 (a0, a1, a2, a3, ())) fun y1 =>
  bif (!y1) then
    some false
  else
  ng20.L0 N N a0 a1 a2 a3 a4 (0 : Int) := by kernel_rfl
theorem ng20.L0_eq (N : Nat)  (n : Nat) (x0 : Int) (x1 : Int) (x2 : Int) (x3 : (List (Ty.den nY44))) (x4 : (List (Ty.den nY38))) (x11 : Int) : ng20.L0 N  (n + 1) x0 x1 x2 x3 x4 x11 =
  bif (decide (x11 < ((List.length x4 : Nat) : Int))) then
    Option.bind (idx x4 x11) fun r2 =>
    bif (decide (r2.1 < (0 : Int))) then
      some false
    else
    Option.bind (idx x4 x11) fun r3 =>
    bif (decide (r3.1 ≥ ((List.length x3 : Nat) : Int))) then
      some false
    else
    Option.bind (idx x4 x11) fun r4 =>
    Option.bind (ng38 (r4.2.1, ())) fun y5 =>
    bif y5 then
      some false
    else
    Option.bind (idx x4 x11) fun r6 =>
    Option.bind (ng38 (r6.2.2.1, ())) fun y7 =>
    bif y7 then
      some false
    else
    Option.bind (idx x4 x11) fun r8 =>
    Option.bind (ng34 (x3, r8, ())) fun y9 =>
    Option.bind (idx x4 x11) fun r10 =>
    bif (decide (r10.2.1 < x2)) then
      some false
    else
    Option.bind (idx x4 x11) fun r11 =>
    bif (decide (r11.2.2.1 < x2)) then
      some false
    else
    Option.bind (idx x4 x11) fun r12 =>
    bif (decide ((IntKind.i64.wrap ((IntKind.i64.wrap (r12.2.1 + y9.1)) + x2)) > x0)) then
      some false
    else
    Option.bind (idx x4 x11) fun r13 =>
    bif (decide ((IntKind.i64.wrap ((IntKind.i64.wrap (r13.2.2.1 + y9.2)) + x2)) > x1)) then
      some false
    else
    ng20.L1 N n N x0 x1 x2 x3 x4 x11 y9.1 y9.2 (0 : Int)
  else
  some true := by kernel_rfl
theorem ng20.L0_zero (N : Nat) (x0 : Int) (x1 : Int) (x2 : Int) (x3 : (List (Ty.den nY44))) (x4 : (List (Ty.den nY38))) (x11 : Int) : ng20.L0 N  0 x0 x1 x2 x3 x4 x11 = none := by kernel_rfl
theorem ng20.L1_eq (N : Nat) (n0 : Nat) (n : Nat) (x0 : Int) (x1 : Int) (x2 : Int) (x3 : (List (Ty.den nY44))) (x4 : (List (Ty.den nY38))) (x11 : Int) (x12 : Int) (x13 : Int) (x14 : Int) : ng20.L1 N n0 (n + 1) x0 x1 x2 x3 x4 x11 x12 x13 x14 =
  bif (decide (x14 < x11)) then
    Option.bind (idx x4 x14) fun r14 =>
    Option.bind (ng34 (x3, r14, ())) fun y15 =>
    Option.bind (idx x4 x11) fun r16 =>
    Option.bind (idx x4 x14) fun r17 =>
    bif (decide ((IntKind.i64.wrap ((IntKind.i64.wrap (r16.2.1 + x12)) + x2)) ≤ r17.2.1)) then
      Option.bind (idx x4 x11) fun r18 =>
      Option.bind (idx x4 x14) fun r19 =>
      bif (decide ((IntKind.i64.wrap ((IntKind.i64.wrap (r18.2.2.1 + x13)) + x2)) ≤ r19.2.2.1)) then
        Option.bind (idx x4 x14) fun r20 =>
        Option.bind (idx x4 x11) fun r21 =>
        bif (r20.1 == r21.1) then
          some false
        else
        ng20.S0 N n0 n x0 x1 x2 x3 x4 x11 x12 x13 x14
      else
      Option.bind (idx x4 x14) fun r22 =>
      Option.bind (idx x4 x11) fun r23 =>
      Option.bind (idx x4 x14) fun r24 =>
      Option.bind (idx x4 x11) fun r25 =>
      bif (r24.1 == r25.1) then
        some false
      else
      ng20.S0 N n0 n x0 x1 x2 x3 x4 x11 x12 x13 x14
    else
    Option.bind (idx x4 x14) fun r26 =>
    Option.bind (idx x4 x11) fun r27 =>
    Option.bind (idx x4 x11) fun r28 =>
    Option.bind (idx x4 x14) fun r29 =>
    bif (decide ((IntKind.i64.wrap ((IntKind.i64.wrap (r28.2.2.1 + x13)) + x2)) ≤ r29.2.2.1)) then
      Option.bind (idx x4 x14) fun r30 =>
      Option.bind (idx x4 x11) fun r31 =>
      bif (r30.1 == r31.1) then
        some false
      else
      bif (!(decide ((IntKind.i64.wrap ((IntKind.i64.wrap (r26.2.1 + y15.1)) + x2)) ≤ r27.2.1))) then
        ng20.S0 N n0 n x0 x1 x2 x3 x4 x11 x12 x13 x14
      else
      ng20.S0 N n0 n x0 x1 x2 x3 x4 x11 x12 x13 x14
    else
    Option.bind (idx x4 x14) fun r32 =>
    Option.bind (idx x4 x11) fun r33 =>
    Option.bind (idx x4 x14) fun r34 =>
    Option.bind (idx x4 x11) fun r35 =>
    bif (r34.1 == r35.1) then
      some false
    else
    bif (!(decide ((IntKind.i64.wrap ((IntKind.i64.wrap (r26.2.1 + y15.1)) + x2)) ≤ r27.2.1))) then
      bif (!(decide ((IntKind.i64.wrap ((IntKind.i64.wrap (r32.2.2.1 + y15.2)) + x2)) ≤ r33.2.2.1))) then
        some false
      else
      ng20.S0 N n0 n x0 x1 x2 x3 x4 x11 x12 x13 x14
    else
    ng20.S0 N n0 n x0 x1 x2 x3 x4 x11 x12 x13 x14
  else
  ng20.S1 N n0 x0 x1 x2 x3 x4 x11 := by kernel_rfl
theorem ng20.L1_zero (N : Nat) (n0 : Nat) (x0 : Int) (x1 : Int) (x2 : Int) (x3 : (List (Ty.den nY44))) (x4 : (List (Ty.den nY38))) (x11 : Int) (x12 : Int) (x13 : Int) (x14 : Int) : ng20.L1 N n0 0 x0 x1 x2 x3 x4 x11 x12 x13 x14 = none := by kernel_rfl
theorem ng20.S0_eqN (N : Nat) (n0 : Nat) (n1 : Nat) (x0 : Int) (x1 : Int) (x2 : Int) (x3 : (List (Ty.den nY44))) (x4 : (List (Ty.den nY38))) (x11 : Int) (x12 : Int) (x13 : Int) (x14 : Int) : ng20.S0 (N + 1) n0 n1 x0 x1 x2 x3 x4 x11 x12 x13 x14 =
  ng20.L1 (N + 1) n0 n1 x0 x1 x2 x3 x4 x11 x12 x13 (IntKind.i64.wrap (x14 + (1 : Int))) := by kernel_rfl
theorem ng20.S0_eq (n0 : Nat) (n1 : Nat) (x0 : Int) (x1 : Int) (x2 : Int) (x3 : (List (Ty.den nY44))) (x4 : (List (Ty.den nY38))) (x11 : Int) (x12 : Int) (x13 : Int) (x14 : Int) : ng20.S0 BIG n0 n1 x0 x1 x2 x3 x4 x11 x12 x13 x14 =
  ng20.L1 BIG n0 n1 x0 x1 x2 x3 x4 x11 x12 x13 (IntKind.i64.wrap (x14 + (1 : Int))) := ng20.S0_eqN 18446744073709551615 n0 n1 x0 x1 x2 x3 x4 x11 x12 x13 x14
theorem ng20.S1_eqN (N : Nat) (n0 : Nat) (x0 : Int) (x1 : Int) (x2 : Int) (x3 : (List (Ty.den nY44))) (x4 : (List (Ty.den nY38))) (x11 : Int) : ng20.S1 (N + 1) n0 x0 x1 x2 x3 x4 x11 =
  ng20.L0 (N + 1) n0 x0 x1 x2 x3 x4 (IntKind.i64.wrap (x11 + (1 : Int))) := by kernel_rfl
theorem ng20.S1_eq (n0 : Nat) (x0 : Int) (x1 : Int) (x2 : Int) (x3 : (List (Ty.den nY44))) (x4 : (List (Ty.den nY38))) (x11 : Int) : ng20.S1 BIG n0 x0 x1 x2 x3 x4 x11 =
  ng20.L0 BIG n0 x0 x1 x2 x3 x4 (IntKind.i64.wrap (x11 + (1 : Int))) := ng20.S1_eqN 18446744073709551615 n0 x0 x1 x2 x3 x4 x11
noncomputable def ng20 (x : DenA ng20.A) : Option (DenR ng20.R) := ng20.N BIG x
noncomputable def ncon20 : Con := ⟨20, ng20.A, ng20.R, false, ng20, none⟩
theorem nsound20 : SoundC Try.prog Jn ncon20 :=
  sound_of (Γ := ng20.G) (tt := ntt) (cut := ng20.cut) (keep := ng20.keep) (boxes := []) ncon20 Try.f20 (fu := fun _ _ _ => BIG) ntt_ok Jn_keeps ((consS nsound23 (consS nsound38 (consS nsound34 noneS)))) nmixed (by kernel_rfl) (by kernel_rfl) fun x r h => Eq.trans (b := Con.fn ncon20 x) (by kernel_rfl) h
/-! swarf/swarfref39.put -/
noncomputable def ng35.G : List Con := []
def ng35.cut : Cuts := [([0, 0, 1, 1], [0, 1, 5], []), ([1, 1], [0, 1, 5], []), ([1, 1, 1], [0, 1, 5], [])]
def ng35.keep : List Nat := [0, 1, 4, 5, 17, 31]
@[reducible] def ng35.A : List ATy := [.v (.sl (.int .i64)), .v (.int .i64)]
@[reducible] def ng35.R : List Ty := [(.sl (.int .i64))]
noncomputable def ng35.N (N : Nat) (x : DenA ng35.A) : Option (DenR ng35.R) := fnR ng35.G ntt ng35.cut ng35.keep [] (fun _ _ => N) Try.f35 ng35.R false (encA ng35.A x)
noncomputable def ng35.L0 (N : Nat) (n : Nat) (x0 : (List Int)) (x1 : Int) (x5 : Int) : Option (DenR ng35.R) := fromLoop ng35.G ntt ng35.cut ng35.keep (fun _ _ => N) (codeOf Try.f35) (retK ntt Try.f35 ng35.R false) [1, 1, 0, 0] [] n ⟨[(0, .val ⟨(.sl (.int .i64)), x0⟩ false), (1, .val ⟨(.int .i64), x1⟩ false), (5, .val ⟨(.int .i64), x5⟩ false)], []⟩
noncomputable def ng35.S0 (N : Nat) (x0 : (List Int)) (x1 : Int) (x5 : Int) : Option (DenR ng35.R) := fromSeq ng35.G ntt ng35.cut ng35.keep (fun _ _ => N) (codeOf Try.f35) (retK ntt Try.f35 ng35.R false) [1, 1] [] ⟨[(0, .val ⟨(.sl (.int .i64)), x0⟩ false), (1, .val ⟨(.int .i64), x1⟩ false), (5, .val ⟨(.int .i64), x5⟩ false)], []⟩
noncomputable def ng35.S1 (N : Nat) (x0 : (List Int)) (x1 : Int) (x5 : Int) : Option (DenR ng35.R) := fromSeq ng35.G ntt ng35.cut ng35.keep (fun _ _ => N) (codeOf Try.f35) (retK ntt Try.f35 ng35.R false) [1, 1, 1] [] ⟨[(0, .val ⟨(.sl (.int .i64)), x0⟩ false), (1, .val ⟨(.int .i64), x1⟩ false), (5, .val ⟨(.int .i64), x5⟩ false)], []⟩
theorem ng35.eq (N : Nat) (a0 : (List Int)) (a1 : Int) : ng35.N N (a0, a1, ()) =
  ng35.L0 N N a0 a1 (0 : Int) := by kernel_rfl
theorem ng35.L0_eq (N : Nat)  (n : Nat) (x0 : (List Int)) (x1 : Int) (x5 : Int) : ng35.L0 N  (n + 1) x0 x1 x5 =
  bif (decide (x5 < ((List.length x0 : Nat) : Int))) then
    Option.bind (idx x0 x5) fun r1 =>
    bif (decide (r1 < x1)) then
      ng35.L0 N n x0 x1 (IntKind.i64.wrap (x5 + (1 : Int)))
    else
    ng35.S0 N x0 x1 x5
  else
  ng35.S0 N x0 x1 x5 := by kernel_rfl
theorem ng35.L0_zero (N : Nat) (x0 : (List Int)) (x1 : Int) (x5 : Int) : ng35.L0 N  0 x0 x1 x5 = none := by kernel_rfl
theorem ng35.S0_eqN (N : Nat)  (x0 : (List Int)) (x1 : Int) (x5 : Int) : ng35.S0 (N + 1)  x0 x1 x5 =
  bif (decide (x5 < ((List.length x0 : Nat) : Int))) then
    Option.bind (idx x0 x5) fun r2 =>
    bif (r2 == x1) then
      some x0
    else
    ng35.S1 (N + 1) x0 x1 x5
  else
  ng35.S1 (N + 1) x0 x1 x5 := by kernel_rfl
theorem ng35.S0_eq  (x0 : (List Int)) (x1 : Int) (x5 : Int) : ng35.S0 BIG  x0 x1 x5 =
  bif (decide (x5 < ((List.length x0 : Nat) : Int))) then
    Option.bind (idx x0 x5) fun r2 =>
    bif (r2 == x1) then
      some x0
    else
    ng35.S1 BIG x0 x1 x5
  else
  ng35.S1 BIG x0 x1 x5 := ng35.S0_eqN 18446744073709551615  x0 x1 x5
theorem ng35.S1_eqN (N : Nat)  (x0 : (List Int)) (x1 : Int) (x5 : Int) : ng35.S1 (N + 1)  x0 x1 x5 =
  bif (decide (0 ≤ x5) && decide (x5 ≤ ((List.length x0 : Nat) : Int))) then
    bif (decide (List.length ([] : (List Int)) + List.length (List.take (Int.toNat x5) x0) ≤ most)) then
      bif (decide (List.length (([] : (List Int)) ++ (List.take (Int.toNat x5) x0)) + List.length ([x1] : (List Int)) ≤ most)) then
        bif (decide (0 ≤ x5) && decide (x5 ≤ ((List.length x0 : Nat) : Int))) then
          bif (decide (List.length ((([] : (List Int)) ++ (List.take (Int.toNat x5) x0)) ++ ([x1] : (List Int))) + List.length (List.drop (Int.toNat x5) x0) ≤ most)) then
            some (((([] : (List Int)) ++ (List.take (Int.toNat x5) x0)) ++ ([x1] : (List Int))) ++ (List.drop (Int.toNat x5) x0))
          else
          none
        else
        none
      else
      none
    else
    none
  else
  none := by kernel_rfl
theorem ng35.S1_eq  (x0 : (List Int)) (x1 : Int) (x5 : Int) : ng35.S1 BIG  x0 x1 x5 =
  bif (decide (0 ≤ x5) && decide (x5 ≤ ((List.length x0 : Nat) : Int))) then
    bif (decide (List.length ([] : (List Int)) + List.length (List.take (Int.toNat x5) x0) ≤ most)) then
      bif (decide (List.length (([] : (List Int)) ++ (List.take (Int.toNat x5) x0)) + List.length ([x1] : (List Int)) ≤ most)) then
        bif (decide (0 ≤ x5) && decide (x5 ≤ ((List.length x0 : Nat) : Int))) then
          bif (decide (List.length ((([] : (List Int)) ++ (List.take (Int.toNat x5) x0)) ++ ([x1] : (List Int))) + List.length (List.drop (Int.toNat x5) x0) ≤ most)) then
            some (((([] : (List Int)) ++ (List.take (Int.toNat x5) x0)) ++ ([x1] : (List Int))) ++ (List.drop (Int.toNat x5) x0))
          else
          none
        else
        none
      else
      none
    else
    none
  else
  none := ng35.S1_eqN 18446744073709551615  x0 x1 x5
noncomputable def ng35 (x : DenA ng35.A) : Option (DenR ng35.R) := ng35.N BIG x
noncomputable def ncon35 : Con := ⟨35, ng35.A, ng35.R, false, ng35, none⟩
theorem nsound35 : SoundC Try.prog Jn ncon35 :=
  sound_of (Γ := ng35.G) (tt := ntt) (cut := ng35.cut) (keep := ng35.keep) (boxes := []) ncon35 Try.f35 (fu := fun _ _ _ => BIG) ntt_ok Jn_keeps (noneS) nmixed (by kernel_rfl) (by kernel_rfl) fun x r h => Eq.trans (b := Con.fn ncon35 x) (by kernel_rfl) h
/-! swarf/swarfref39.Spots -/
noncomputable def ng18.G : List Con := [ncon20, ncon34, ncon35]
def ng18.cut : Cuts := [([0, 1, 0, 1, 1, 1], [2, 3, 4, 11, 12, 13], []), ([1, 1, 1], [11, 12], []), ([0, 1, 0, 1, 1, 1, 1, 1], [11, 12, 16, 17], []), ([0, 1, 0, 0, 1, 0, 0, 1, 0, 1, 1, 1, 1, 1], [11, 12, 16, 17, 18], []), ([1, 0, 0, 1, 0, 1, 1, 1, 1, 1], [11, 12, 16, 17], [])]
def ng18.keep : List Nat := [0, 1, 2, 3, 4, 10, 11, 12, 13, 14, 15, 16, 17, 18, 25, 33, 70, 76]
@[reducible] def ng18.A : List ATy := [.v (.int .i64), .v (.int .i64), .v (.int .i64), .v (.sl nY44), .v (.sl nY38)]
@[reducible] def ng18.R : List Ty := [(.sl nY44)]
noncomputable def ng18.N (N : Nat) (x : DenA ng18.A) : Option (DenR ng18.R) := fnR ng18.G ntt ng18.cut ng18.keep [] (fun _ _ => N) Try.f18 ng18.R true (encA ng18.A x)
noncomputable def ng18.L0 (N : Nat) (n : Nat) (x2 : Int) (x3 : (List (Ty.den nY44))) (x4 : (List (Ty.den nY38))) (x11 : (List Int)) (x12 : (List Int)) (x13 : Int) : Option (DenR ng18.R) := fromLoop ng18.G ntt ng18.cut ng18.keep (fun _ _ => N) (codeOf Try.f18) (retK ntt Try.f18 ng18.R true) [1, 1, 1, 0, 1, 0] [] n ⟨[(2, .val ⟨(.int .i64), x2⟩ false), (3, .val ⟨(.sl nY44), x3⟩ false), (4, .val ⟨(.sl nY38), x4⟩ false), (11, .val ⟨(.sl (.int .i64)), x11⟩ true), (12, .val ⟨(.sl (.int .i64)), x12⟩ true), (13, .val ⟨(.int .i64), x13⟩ false)], []⟩
noncomputable def ng18.L0_1 (N : Nat) (n : Nat) (x2 : Int) (x3 : (List (Ty.den nY44))) (x4 : (List (Ty.den nY38))) (x11 : (List Int)) (x12 : (List Int)) (x13 : Int) : Option (DenR ng18.R) := fromLoop ng18.G ntt ng18.cut ng18.keep (fun _ _ => N) (codeOf Try.f18) (retK ntt Try.f18 ng18.R true) [1, 1, 1, 0, 1, 0] [] n ⟨[(2, .val ⟨(.int .i64), x2⟩ false), (3, .val ⟨(.sl nY44), x3⟩ false), (4, .val ⟨(.sl nY38), x4⟩ false), (11, .val ⟨(.sl (.int .i64)), x11⟩ false), (12, .val ⟨(.sl (.int .i64)), x12⟩ false), (13, .val ⟨(.int .i64), x13⟩ false)], []⟩
noncomputable def ng18.S0 (N : Nat) (x11 : (List Int)) (x12 : (List Int)) : Option (DenR ng18.R) := fromSeq ng18.G ntt ng18.cut ng18.keep (fun _ _ => N) (codeOf Try.f18) (retK ntt Try.f18 ng18.R true) [1, 1, 1] [] ⟨[(11, .val ⟨(.sl (.int .i64)), x11⟩ true), (12, .val ⟨(.sl (.int .i64)), x12⟩ true)], []⟩
noncomputable def ng18.S0_1 (N : Nat) (x11 : (List Int)) (x12 : (List Int)) : Option (DenR ng18.R) := fromSeq ng18.G ntt ng18.cut ng18.keep (fun _ _ => N) (codeOf Try.f18) (retK ntt Try.f18 ng18.R true) [1, 1, 1] [] ⟨[(11, .val ⟨(.sl (.int .i64)), x11⟩ false), (12, .val ⟨(.sl (.int .i64)), x12⟩ false)], []⟩
noncomputable def ng18.L1 (N : Nat) (n : Nat) (x11 : (List Int)) (x12 : (List Int)) (x16 : (List (Ty.den nY44))) (x17 : Int) : Option (DenR ng18.R) := fromLoop ng18.G ntt ng18.cut ng18.keep (fun _ _ => N) (codeOf Try.f18) (retK ntt Try.f18 ng18.R true) [1, 1, 1, 1, 1, 0, 1, 0] [] n ⟨[(11, .val ⟨(.sl (.int .i64)), x11⟩ true), (12, .val ⟨(.sl (.int .i64)), x12⟩ true), (16, .val ⟨(.sl nY44), x16⟩ true), (17, .val ⟨(.int .i64), x17⟩ false)], []⟩
noncomputable def ng18.L1_1 (N : Nat) (n : Nat) (x11 : (List Int)) (x12 : (List Int)) (x16 : (List (Ty.den nY44))) (x17 : Int) : Option (DenR ng18.R) := fromLoop ng18.G ntt ng18.cut ng18.keep (fun _ _ => N) (codeOf Try.f18) (retK ntt Try.f18 ng18.R true) [1, 1, 1, 1, 1, 0, 1, 0] [] n ⟨[(11, .val ⟨(.sl (.int .i64)), x11⟩ false), (12, .val ⟨(.sl (.int .i64)), x12⟩ false), (16, .val ⟨(.sl nY44), x16⟩ true), (17, .val ⟨(.int .i64), x17⟩ false)], []⟩
noncomputable def ng18.L2 (N : Nat) (n0 : Nat) (n : Nat) (x11 : (List Int)) (x12 : (List Int)) (x16 : (List (Ty.den nY44))) (x17 : Int) (x18 : Int) : Option (DenR ng18.R) := fromLoop ng18.G ntt ng18.cut ng18.keep (fun _ _ => N) (codeOf Try.f18) (retK ntt Try.f18 ng18.R true) [1, 1, 1, 1, 1, 0, 1, 0, 0, 1, 0, 0, 1, 0] [n0] n ⟨[(11, .val ⟨(.sl (.int .i64)), x11⟩ true), (12, .val ⟨(.sl (.int .i64)), x12⟩ true), (16, .val ⟨(.sl nY44), x16⟩ true), (17, .val ⟨(.int .i64), x17⟩ false), (18, .val ⟨(.int .i64), x18⟩ false)], []⟩
noncomputable def ng18.L2_1 (N : Nat) (n0 : Nat) (n : Nat) (x11 : (List Int)) (x12 : (List Int)) (x16 : (List (Ty.den nY44))) (x17 : Int) (x18 : Int) : Option (DenR ng18.R) := fromLoop ng18.G ntt ng18.cut ng18.keep (fun _ _ => N) (codeOf Try.f18) (retK ntt Try.f18 ng18.R true) [1, 1, 1, 1, 1, 0, 1, 0, 0, 1, 0, 0, 1, 0] [n0] n ⟨[(11, .val ⟨(.sl (.int .i64)), x11⟩ false), (12, .val ⟨(.sl (.int .i64)), x12⟩ false), (16, .val ⟨(.sl nY44), x16⟩ true), (17, .val ⟨(.int .i64), x17⟩ false), (18, .val ⟨(.int .i64), x18⟩ false)], []⟩
noncomputable def ng18.S1 (N : Nat) (n0 : Nat) (x11 : (List Int)) (x12 : (List Int)) (x16 : (List (Ty.den nY44))) (x17 : Int) : Option (DenR ng18.R) := fromSeq ng18.G ntt ng18.cut ng18.keep (fun _ _ => N) (codeOf Try.f18) (retK ntt Try.f18 ng18.R true) [1, 1, 1, 1, 1, 0, 1, 0, 0, 1] [n0] ⟨[(11, .val ⟨(.sl (.int .i64)), x11⟩ true), (12, .val ⟨(.sl (.int .i64)), x12⟩ true), (16, .val ⟨(.sl nY44), x16⟩ true), (17, .val ⟨(.int .i64), x17⟩ false)], []⟩
noncomputable def ng18.S1_1 (N : Nat) (n0 : Nat) (x11 : (List Int)) (x12 : (List Int)) (x16 : (List (Ty.den nY44))) (x17 : Int) : Option (DenR ng18.R) := fromSeq ng18.G ntt ng18.cut ng18.keep (fun _ _ => N) (codeOf Try.f18) (retK ntt Try.f18 ng18.R true) [1, 1, 1, 1, 1, 0, 1, 0, 0, 1] [n0] ⟨[(11, .val ⟨(.sl (.int .i64)), x11⟩ false), (12, .val ⟨(.sl (.int .i64)), x12⟩ false), (16, .val ⟨(.sl nY44), x16⟩ true), (17, .val ⟨(.int .i64), x17⟩ false)], []⟩
theorem ng18.eq (N : Nat) (a0 : Int) (a1 : Int) (a2 : Int) (a3 : (List (Ty.den nY44))) (a4 : (List (Ty.den nY38))) : ng18.N N (a0, a1, a2, a3, a4, ()) =
  Option.bind (ng20 (a0, a1, a2, a3, a4, ())) fun y1 =>
  bif (!y1) then
    some []
  else
  ng18.L0 N N a2 a3 a4 [a2] [a2] (0 : Int) := by kernel_rfl
theorem ng18.L0_eq (N : Nat)  (n : Nat) (x2 : Int) (x3 : (List (Ty.den nY44))) (x4 : (List (Ty.den nY38))) (x11 : (List Int)) (x12 : (List Int)) (x13 : Int) : ng18.L0 N  (n + 1) x2 x3 x4 x11 x12 x13 =
  bif (decide (x13 < ((List.length x4 : Nat) : Int))) then
    Option.bind (idx x4 x13) fun r2 =>
    Option.bind (ng34 (x3, r2, ())) fun y3 =>
    Option.bind (idx x4 x13) fun r4 =>
    Option.bind (ng35 (x11, (IntKind.i64.wrap ((IntKind.i64.wrap (r4.2.1 + y3.1)) + x2)), ())) fun y5 =>
    Option.bind (idx x4 x13) fun r6 =>
    Option.bind (ng35 (x12, (IntKind.i64.wrap ((IntKind.i64.wrap (r6.2.2.1 + y3.2)) + x2)), ())) fun y7 =>
    ng18.L0_1 N n x2 x3 x4 y5 y7 (IntKind.i64.wrap (x13 + (1 : Int)))
  else
  ng18.S0 N x11 x12 := by kernel_rfl
theorem ng18.L0_zero (N : Nat) (x2 : Int) (x3 : (List (Ty.den nY44))) (x4 : (List (Ty.den nY38))) (x11 : (List Int)) (x12 : (List Int)) (x13 : Int) : ng18.L0 N  0 x2 x3 x4 x11 x12 x13 = none := by kernel_rfl
theorem ng18.L0_1_eq (N : Nat)  (n : Nat) (x2 : Int) (x3 : (List (Ty.den nY44))) (x4 : (List (Ty.den nY38))) (x11 : (List Int)) (x12 : (List Int)) (x13 : Int) : ng18.L0_1 N  (n + 1) x2 x3 x4 x11 x12 x13 =
  bif (decide (x13 < ((List.length x4 : Nat) : Int))) then
    Option.bind (idx x4 x13) fun r8 =>
    Option.bind (ng34 (x3, r8, ())) fun y9 =>
    Option.bind (idx x4 x13) fun r10 =>
    Option.bind (ng35 (x11, (IntKind.i64.wrap ((IntKind.i64.wrap (r10.2.1 + y9.1)) + x2)), ())) fun y11 =>
    Option.bind (idx x4 x13) fun r12 =>
    Option.bind (ng35 (x12, (IntKind.i64.wrap ((IntKind.i64.wrap (r12.2.2.1 + y9.2)) + x2)), ())) fun y13 =>
    ng18.L0_1 N n x2 x3 x4 y11 y13 (IntKind.i64.wrap (x13 + (1 : Int)))
  else
  ng18.S0_1 N x11 x12 := by kernel_rfl
theorem ng18.L0_1_zero (N : Nat) (x2 : Int) (x3 : (List (Ty.den nY44))) (x4 : (List (Ty.den nY38))) (x11 : (List Int)) (x12 : (List Int)) (x13 : Int) : ng18.L0_1 N  0 x2 x3 x4 x11 x12 x13 = none := by kernel_rfl
theorem ng18.S0_eqN (N : Nat)  (x11 : (List Int)) (x12 : (List Int)) : ng18.S0 (N + 1)  x11 x12 =
  ng18.L1 (N + 1) (N + 1) x11 x12 [] (0 : Int) := by kernel_rfl
theorem ng18.S0_eq  (x11 : (List Int)) (x12 : (List Int)) : ng18.S0 BIG  x11 x12 =
  ng18.L1 BIG BIG x11 x12 [] (0 : Int) := ng18.S0_eqN 18446744073709551615  x11 x12
theorem ng18.S0_1_eqN (N : Nat)  (x11 : (List Int)) (x12 : (List Int)) : ng18.S0_1 (N + 1)  x11 x12 =
  ng18.L1_1 (N + 1) (N + 1) x11 x12 [] (0 : Int) := by kernel_rfl
theorem ng18.S0_1_eq  (x11 : (List Int)) (x12 : (List Int)) : ng18.S0_1 BIG  x11 x12 =
  ng18.L1_1 BIG BIG x11 x12 [] (0 : Int) := ng18.S0_1_eqN 18446744073709551615  x11 x12
theorem ng18.L1_eq (N : Nat)  (n : Nat) (x11 : (List Int)) (x12 : (List Int)) (x16 : (List (Ty.den nY44))) (x17 : Int) : ng18.L1 N  (n + 1) x11 x12 x16 x17 =
  bif (decide (x17 < ((List.length x12 : Nat) : Int))) then
    ng18.L2 N n N x11 x12 x16 x17 (0 : Int)
  else
  some x16 := by kernel_rfl
theorem ng18.L1_zero (N : Nat) (x11 : (List Int)) (x12 : (List Int)) (x16 : (List (Ty.den nY44))) (x17 : Int) : ng18.L1 N  0 x11 x12 x16 x17 = none := by kernel_rfl
theorem ng18.L1_1_eq (N : Nat)  (n : Nat) (x11 : (List Int)) (x12 : (List Int)) (x16 : (List (Ty.den nY44))) (x17 : Int) : ng18.L1_1 N  (n + 1) x11 x12 x16 x17 =
  bif (decide (x17 < ((List.length x12 : Nat) : Int))) then
    ng18.L2_1 N n N x11 x12 x16 x17 (0 : Int)
  else
  some x16 := by kernel_rfl
theorem ng18.L1_1_zero (N : Nat) (x11 : (List Int)) (x12 : (List Int)) (x16 : (List (Ty.den nY44))) (x17 : Int) : ng18.L1_1 N  0 x11 x12 x16 x17 = none := by kernel_rfl
theorem ng18.L2_eq (N : Nat) (n0 : Nat) (n : Nat) (x11 : (List Int)) (x12 : (List Int)) (x16 : (List (Ty.den nY44))) (x17 : Int) (x18 : Int) : ng18.L2 N n0 (n + 1) x11 x12 x16 x17 x18 =
  bif (decide (x18 < ((List.length x11 : Nat) : Int))) then
    Option.bind (idx x11 x18) fun r14 =>
    Option.bind (idx x12 x17) fun r15 =>
    bif (decide (List.length x16 + List.length ([(r14, r15, ())] : (List (Ty.den nY44))) ≤ most)) then
      ng18.L2 N n0 n x11 x12 (x16 ++ ([(r14, r15, ())] : (List (Ty.den nY44)))) x17 (IntKind.i64.wrap (x18 + (1 : Int)))
    else
    none
  else
  ng18.S1 N n0 x11 x12 x16 x17 := by kernel_rfl
theorem ng18.L2_zero (N : Nat) (n0 : Nat) (x11 : (List Int)) (x12 : (List Int)) (x16 : (List (Ty.den nY44))) (x17 : Int) (x18 : Int) : ng18.L2 N n0 0 x11 x12 x16 x17 x18 = none := by kernel_rfl
theorem ng18.L2_1_eq (N : Nat) (n0 : Nat) (n : Nat) (x11 : (List Int)) (x12 : (List Int)) (x16 : (List (Ty.den nY44))) (x17 : Int) (x18 : Int) : ng18.L2_1 N n0 (n + 1) x11 x12 x16 x17 x18 =
  bif (decide (x18 < ((List.length x11 : Nat) : Int))) then
    Option.bind (idx x11 x18) fun r16 =>
    Option.bind (idx x12 x17) fun r17 =>
    bif (decide (List.length x16 + List.length ([(r16, r17, ())] : (List (Ty.den nY44))) ≤ most)) then
      ng18.L2_1 N n0 n x11 x12 (x16 ++ ([(r16, r17, ())] : (List (Ty.den nY44)))) x17 (IntKind.i64.wrap (x18 + (1 : Int)))
    else
    none
  else
  ng18.S1_1 N n0 x11 x12 x16 x17 := by kernel_rfl
theorem ng18.L2_1_zero (N : Nat) (n0 : Nat) (x11 : (List Int)) (x12 : (List Int)) (x16 : (List (Ty.den nY44))) (x17 : Int) (x18 : Int) : ng18.L2_1 N n0 0 x11 x12 x16 x17 x18 = none := by kernel_rfl
theorem ng18.S1_eqN (N : Nat) (n0 : Nat) (x11 : (List Int)) (x12 : (List Int)) (x16 : (List (Ty.den nY44))) (x17 : Int) : ng18.S1 (N + 1) n0 x11 x12 x16 x17 =
  ng18.L1 (N + 1) n0 x11 x12 x16 (IntKind.i64.wrap (x17 + (1 : Int))) := by kernel_rfl
theorem ng18.S1_eq (n0 : Nat) (x11 : (List Int)) (x12 : (List Int)) (x16 : (List (Ty.den nY44))) (x17 : Int) : ng18.S1 BIG n0 x11 x12 x16 x17 =
  ng18.L1 BIG n0 x11 x12 x16 (IntKind.i64.wrap (x17 + (1 : Int))) := ng18.S1_eqN 18446744073709551615 n0 x11 x12 x16 x17
theorem ng18.S1_1_eqN (N : Nat) (n0 : Nat) (x11 : (List Int)) (x12 : (List Int)) (x16 : (List (Ty.den nY44))) (x17 : Int) : ng18.S1_1 (N + 1) n0 x11 x12 x16 x17 =
  ng18.L1_1 (N + 1) n0 x11 x12 x16 (IntKind.i64.wrap (x17 + (1 : Int))) := by kernel_rfl
theorem ng18.S1_1_eq (n0 : Nat) (x11 : (List Int)) (x12 : (List Int)) (x16 : (List (Ty.den nY44))) (x17 : Int) : ng18.S1_1 BIG n0 x11 x12 x16 x17 =
  ng18.L1_1 BIG n0 x11 x12 x16 (IntKind.i64.wrap (x17 + (1 : Int))) := ng18.S1_1_eqN 18446744073709551615 n0 x11 x12 x16 x17
noncomputable def ng18 (x : DenA ng18.A) : Option (DenR ng18.R) := ng18.N BIG x
noncomputable def ncon18 : Con := ⟨18, ng18.A, ng18.R, true, ng18, none⟩
theorem nsound18 : SoundC Try.prog Jn ncon18 :=
  sound_of (Γ := ng18.G) (tt := ntt) (cut := ng18.cut) (keep := ng18.keep) (boxes := []) ncon18 Try.f18 (fu := fun _ _ _ => BIG) ntt_ok Jn_keeps ((consS nsound20 (consS nsound34 (consS nsound35 noneS)))) nmixed (by kernel_rfl) (by kernel_rfl) fun x r h => Eq.trans (b := Con.fn ncon18 x) (by kernel_rfl) h
/-! swarf/swarfref39.Fits -/
noncomputable def ng22.G : List Con := [ncon20]
def ng22.cut : Cuts := []
def ng22.keep : List Nat := [0, 1, 2, 3, 4, 11, 12]
@[reducible] def ng22.A : List ATy := [.v (.int .i64), .v (.int .i64), .v (.int .i64), .v (.sl nY44), .v (.sl nY38), .v nY38]
@[reducible] def ng22.R : List Ty := [.bool]
noncomputable def ng22.N (N : Nat) (x : DenA ng22.A) : Option (DenR ng22.R) := fnR ng22.G ntt ng22.cut ng22.keep [11] (fun _ _ => N) Try.f22 ng22.R false (encA ng22.A x)
theorem ng22.eq (N : Nat) (a0 : Int) (a1 : Int) (a2 : Int) (a3 : (List (Ty.den nY44))) (a4 : (List (Ty.den nY38))) (a5 : (Ty.den nY38)) : ng22.N N (a0, a1, a2, a3, a4, a5, ()) =
  Option.bind (ng20 (a0, a1, a2, a3, a4, ())) fun y1 =>
  bif y1 then
    bif (decide (List.length ([] : (List (Ty.den nY38))) + List.length a4 ≤ most)) then
      bif (decide (List.length (([] : (List (Ty.den nY38))) ++ a4) + List.length ([a5] : (List (Ty.den nY38))) ≤ most)) then
        Option.bind (ng20 (a0, a1, a2, a3, ((([] : (List (Ty.den nY38))) ++ a4) ++ ([a5] : (List (Ty.den nY38)))), ())) fun y2 =>
        some y2
      else
      none
    else
    none
  else
  some false := by kernel_rfl
noncomputable def ng22 (x : DenA ng22.A) : Option (DenR ng22.R) := ng22.N BIG x
noncomputable def ncon22 : Con := ⟨22, ng22.A, ng22.R, false, ng22, none⟩
theorem nsound22 : SoundC Try.prog Jn ncon22 :=
  sound_of (Γ := ng22.G) (tt := ntt) (cut := ng22.cut) (keep := ng22.keep) (boxes := [11]) ncon22 Try.f22 (fu := fun _ _ _ => BIG) ntt_ok Jn_keeps ((consS nsound20 noneS)) nmixed (by kernel_rfl) (by kernel_rfl) fun x r h => Eq.trans (b := Con.fn ncon22 x) (by kernel_rfl) h
/-! swarf/swarfref39.spot -/
noncomputable def ng30.G : List Con := [ncon18, ncon22]
def ng30.cut : Cuts := [([0, 1, 0, 1, 1], [0, 1, 2, 3, 4, 5, 12, 14, 15], [12]), ([0, 1, 0, 0, 1, 0, 0, 1, 0, 1, 1], [0, 1, 2, 3, 4, 5, 12, 14, 15, 16], [12]), ([1, 1], [12], [12]), ([1, 0, 0, 1, 0, 1, 1], [0, 1, 2, 3, 4, 5, 12, 14, 15], [12])]
def ng30.keep : List Nat := [0, 1, 2, 3, 4, 5, 12, 13, 14, 15, 16, 17, 27, 31, 54]
@[reducible] def ng30.A : List ATy := [.v (.int .i64), .v (.int .i64), .v (.int .i64), .v (.sl nY44), .v (.sl nY38), .v (.int .i64)]
@[reducible] def ng30.R : List Ty := [nY38, .bool]
noncomputable def ng30.N (N : Nat) (x : DenA ng30.A) : Option (DenR ng30.R) := fnR ng30.G ntt ng30.cut ng30.keep [12, 17] (fun _ _ => N) Try.f30 ng30.R false (encA ng30.A x)
noncomputable def ng30.L0 (N : Nat) (n : Nat) (x0 : Int) (x1 : Int) (x2 : Int) (x3 : (List (Ty.den nY44))) (x4 : (List (Ty.den nY38))) (x5 : Int) (x14 : (List (Ty.den nY44))) (x15 : Int) (b12 : (Ty.den nY38)) : Option (DenR ng30.R) := fromLoop ng30.G ntt ng30.cut ng30.keep (fun _ _ => N) (codeOf Try.f30) (retK ntt Try.f30 ng30.R false) [1, 1, 0, 1, 0] [] n ⟨[(0, .val ⟨(.int .i64), x0⟩ false), (1, .val ⟨(.int .i64), x1⟩ false), (2, .val ⟨(.int .i64), x2⟩ false), (3, .val ⟨(.sl nY44), x3⟩ false), (4, .val ⟨(.sl nY38), x4⟩ false), (5, .val ⟨(.int .i64), x5⟩ false), (12, .ref 12 0), (14, .val ⟨(.sl nY44), x14⟩ true), (15, .val ⟨(.int .i64), x15⟩ false)], [(12, ⟨nY38, b12, []⟩)]⟩
noncomputable def ng30.L1 (N : Nat) (n0 : Nat) (n : Nat) (x0 : Int) (x1 : Int) (x2 : Int) (x3 : (List (Ty.den nY44))) (x4 : (List (Ty.den nY38))) (x5 : Int) (x14 : (List (Ty.den nY44))) (x15 : Int) (x16 : Int) (b12 : (Ty.den nY38)) : Option (DenR ng30.R) := fromLoop ng30.G ntt ng30.cut ng30.keep (fun _ _ => N) (codeOf Try.f30) (retK ntt Try.f30 ng30.R false) [1, 1, 0, 1, 0, 0, 1, 0, 0, 1, 0] [n0] n ⟨[(0, .val ⟨(.int .i64), x0⟩ false), (1, .val ⟨(.int .i64), x1⟩ false), (2, .val ⟨(.int .i64), x2⟩ false), (3, .val ⟨(.sl nY44), x3⟩ false), (4, .val ⟨(.sl nY38), x4⟩ false), (5, .val ⟨(.int .i64), x5⟩ false), (12, .ref 12 0), (14, .val ⟨(.sl nY44), x14⟩ true), (15, .val ⟨(.int .i64), x15⟩ false), (16, .val ⟨(.int .i64), x16⟩ false)], [(12, ⟨nY38, b12, []⟩)]⟩
noncomputable def ng30.S0 (N : Nat) (b12 : (Ty.den nY38)) : Option (DenR ng30.R) := fromSeq ng30.G ntt ng30.cut ng30.keep (fun _ _ => N) (codeOf Try.f30) (retK ntt Try.f30 ng30.R false) [1, 1] [] ⟨[(12, .ref 12 0)], [(12, ⟨nY38, b12, []⟩)]⟩
noncomputable def ng30.S1 (N : Nat) (n0 : Nat) (x0 : Int) (x1 : Int) (x2 : Int) (x3 : (List (Ty.den nY44))) (x4 : (List (Ty.den nY38))) (x5 : Int) (x14 : (List (Ty.den nY44))) (x15 : Int) (b12 : (Ty.den nY38)) : Option (DenR ng30.R) := fromSeq ng30.G ntt ng30.cut ng30.keep (fun _ _ => N) (codeOf Try.f30) (retK ntt Try.f30 ng30.R false) [1, 1, 0, 1, 0, 0, 1] [n0] ⟨[(0, .val ⟨(.int .i64), x0⟩ false), (1, .val ⟨(.int .i64), x1⟩ false), (2, .val ⟨(.int .i64), x2⟩ false), (3, .val ⟨(.sl nY44), x3⟩ false), (4, .val ⟨(.sl nY38), x4⟩ false), (5, .val ⟨(.int .i64), x5⟩ false), (12, .ref 12 0), (14, .val ⟨(.sl nY44), x14⟩ true), (15, .val ⟨(.int .i64), x15⟩ false)], [(12, ⟨nY38, b12, []⟩)]⟩
theorem ng30.eq (N : Nat) (a0 : Int) (a1 : Int) (a2 : Int) (a3 : (List (Ty.den nY44))) (a4 : (List (Ty.den nY38))) (a5 : Int) : ng30.N N (a0, a1, a2, a3, a4, a5, ()) =
  Option.bind (ng18 (a0, a1, a2, a3, a4, ())) fun y1 =>
  ng30.L0 N N a0 a1 a2 a3 a4 a5 y1 (0 : Int) ((0 : Int), (0 : Int), (0 : Int), false, ()) := by kernel_rfl
theorem ng30.L0_eq (N : Nat)  (n : Nat) (x0 : Int) (x1 : Int) (x2 : Int) (x3 : (List (Ty.den nY44))) (x4 : (List (Ty.den nY38))) (x5 : Int) (x14 : (List (Ty.den nY44))) (x15 : Int) (b12 : (Ty.den nY38)) : ng30.L0 N  (n + 1) x0 x1 x2 x3 x4 x5 x14 x15 b12 =
  bif (decide (x15 < ((List.length x14 : Nat) : Int))) then
    ng30.L1 N n N x0 x1 x2 x3 x4 x5 x14 x15 (0 : Int) b12
  else
  ng30.S0 N b12 := by kernel_rfl
theorem ng30.L0_zero (N : Nat) (x0 : Int) (x1 : Int) (x2 : Int) (x3 : (List (Ty.den nY44))) (x4 : (List (Ty.den nY38))) (x5 : Int) (x14 : (List (Ty.den nY44))) (x15 : Int) (b12 : (Ty.den nY38)) : ng30.L0 N  0 x0 x1 x2 x3 x4 x5 x14 x15 b12 = none := by kernel_rfl
theorem ng30.L1_eq (N : Nat) (n0 : Nat) (n : Nat) (x0 : Int) (x1 : Int) (x2 : Int) (x3 : (List (Ty.den nY44))) (x4 : (List (Ty.den nY38))) (x5 : Int) (x14 : (List (Ty.den nY44))) (x15 : Int) (x16 : Int) (b12 : (Ty.den nY38)) : ng30.L1 N n0 (n + 1) x0 x1 x2 x3 x4 x5 x14 x15 x16 b12 =
  bif (decide (x16 < (2 : Int))) then
    Option.bind (idx x14 x15) fun r2 =>
    Option.bind (idx x14 x15) fun r3 =>
    Option.bind (ng22 (x0, x1, x2, x3, x4, (x5, r2.1, r3.2.1, (x16 == (1 : Int)), ()), ())) fun y4 =>
    bif y4 then
      some ((x5, r2.1, r3.2.1, (x16 == (1 : Int)), ()), true)
    else
    ng30.L1 N n0 n x0 x1 x2 x3 x4 x5 x14 x15 (IntKind.i64.wrap (x16 + (1 : Int))) b12
  else
  ng30.S1 N n0 x0 x1 x2 x3 x4 x5 x14 x15 b12 := by kernel_rfl
theorem ng30.L1_zero (N : Nat) (n0 : Nat) (x0 : Int) (x1 : Int) (x2 : Int) (x3 : (List (Ty.den nY44))) (x4 : (List (Ty.den nY38))) (x5 : Int) (x14 : (List (Ty.den nY44))) (x15 : Int) (x16 : Int) (b12 : (Ty.den nY38)) : ng30.L1 N n0 0 x0 x1 x2 x3 x4 x5 x14 x15 x16 b12 = none := by kernel_rfl
theorem ng30.S0_eqN (N : Nat)  (b12 : (Ty.den nY38)) : ng30.S0 (N + 1)  b12 =
  some (((0 : Int), (0 : Int), (0 : Int), false, ()), false) := by kernel_rfl
theorem ng30.S0_eq  (b12 : (Ty.den nY38)) : ng30.S0 BIG  b12 =
  some (((0 : Int), (0 : Int), (0 : Int), false, ()), false) := ng30.S0_eqN 18446744073709551615  b12
theorem ng30.S1_eqN (N : Nat) (n0 : Nat) (x0 : Int) (x1 : Int) (x2 : Int) (x3 : (List (Ty.den nY44))) (x4 : (List (Ty.den nY38))) (x5 : Int) (x14 : (List (Ty.den nY44))) (x15 : Int) (b12 : (Ty.den nY38)) : ng30.S1 (N + 1) n0 x0 x1 x2 x3 x4 x5 x14 x15 b12 =
  ng30.L0 (N + 1) n0 x0 x1 x2 x3 x4 x5 x14 (IntKind.i64.wrap (x15 + (1 : Int))) b12 := by kernel_rfl
theorem ng30.S1_eq (n0 : Nat) (x0 : Int) (x1 : Int) (x2 : Int) (x3 : (List (Ty.den nY44))) (x4 : (List (Ty.den nY38))) (x5 : Int) (x14 : (List (Ty.den nY44))) (x15 : Int) (b12 : (Ty.den nY38)) : ng30.S1 BIG n0 x0 x1 x2 x3 x4 x5 x14 x15 b12 =
  ng30.L0 BIG n0 x0 x1 x2 x3 x4 x5 x14 (IntKind.i64.wrap (x15 + (1 : Int))) b12 := ng30.S1_eqN 18446744073709551615 n0 x0 x1 x2 x3 x4 x5 x14 x15 b12
noncomputable def ng30 (x : DenA ng30.A) : Option (DenR ng30.R) := ng30.N BIG x
noncomputable def ncon30 : Con := ⟨30, ng30.A, ng30.R, false, ng30, none⟩
theorem nsound30 : SoundC Try.prog Jn ncon30 :=
  sound_of (Γ := ng30.G) (tt := ntt) (cut := ng30.cut) (keep := ng30.keep) (boxes := [12, 17]) ncon30 Try.f30 (fu := fun _ _ _ => BIG) ntt_ok Jn_keeps ((consS nsound18 (consS nsound22 noneS))) nmixed (by kernel_rfl) (by kernel_rfl) fun x r h => Eq.trans (b := Con.fn ncon30 x) (by kernel_rfl) h
/-! swarf/swarfref39.Nest -/
noncomputable def ng11.G : List Con := [ncon23, ncon30]
def ng11.cut : Cuts := [([0, 1, 0, 1, 1, 1, 1], [0, 1, 2, 3, 11, 12, 13], []), ([1, 0, 0, 1, 0, 1, 1, 1, 1], [0, 1, 2, 3, 11, 12, 13], []), ([1, 1, 1, 1], [11, 12], [])]
def ng11.keep : List Nat := [0, 1, 2, 3, 8, 9, 10, 11, 12, 13, 14, 15, 21, 25, 38]
@[reducible] def ng11.A : List ATy := [.v (.int .i64), .v (.int .i64), .v (.int .i64), .v (.sl nY44)]
@[reducible] def ng11.R : List Ty := [(.sl nY38), (.sl (.int .i64)), (.int .i64)]
noncomputable def ng11.N (N : Nat) (x : DenA ng11.A) : Option (DenR ng11.R) := fnR ng11.G ntt ng11.cut ng11.keep [14] (fun _ _ => N) Try.f11 ng11.R false (encA ng11.A x)
noncomputable def ng11.L0 (N : Nat) (n : Nat) (x0 : Int) (x1 : Int) (x2 : Int) (x3 : (List (Ty.den nY44))) (x11 : (List (Ty.den nY38))) (x12 : (List Int)) (x13 : Int) : Option (DenR ng11.R) := fromLoop ng11.G ntt ng11.cut ng11.keep (fun _ _ => N) (codeOf Try.f11) (retK ntt Try.f11 ng11.R false) [1, 1, 1, 1, 0, 1, 0] [] n ⟨[(0, .val ⟨(.int .i64), x0⟩ false), (1, .val ⟨(.int .i64), x1⟩ false), (2, .val ⟨(.int .i64), x2⟩ false), (3, .val ⟨(.sl nY44), x3⟩ false), (11, .val ⟨(.sl nY38), x11⟩ true), (12, .val ⟨(.sl (.int .i64)), x12⟩ true), (13, .val ⟨(.int .i64), x13⟩ false)], []⟩
noncomputable def ng11.S0 (N : Nat) (n0 : Nat) (x0 : Int) (x1 : Int) (x2 : Int) (x3 : (List (Ty.den nY44))) (x11 : (List (Ty.den nY38))) (x12 : (List Int)) (x13 : Int) : Option (DenR ng11.R) := fromSeq ng11.G ntt ng11.cut ng11.keep (fun _ _ => N) (codeOf Try.f11) (retK ntt Try.f11 ng11.R false) [1, 1, 1, 1, 0, 1, 0, 0, 1] [n0] ⟨[(0, .val ⟨(.int .i64), x0⟩ false), (1, .val ⟨(.int .i64), x1⟩ false), (2, .val ⟨(.int .i64), x2⟩ false), (3, .val ⟨(.sl nY44), x3⟩ false), (11, .val ⟨(.sl nY38), x11⟩ true), (12, .val ⟨(.sl (.int .i64)), x12⟩ true), (13, .val ⟨(.int .i64), x13⟩ false)], []⟩
noncomputable def ng11.S1 (N : Nat) (x11 : (List (Ty.den nY38))) (x12 : (List Int)) : Option (DenR ng11.R) := fromSeq ng11.G ntt ng11.cut ng11.keep (fun _ _ => N) (codeOf Try.f11) (retK ntt Try.f11 ng11.R false) [1, 1, 1, 1] [] ⟨[(11, .val ⟨(.sl nY38), x11⟩ true), (12, .val ⟨(.sl (.int .i64)), x12⟩ true)], []⟩
theorem ng11.eq (N : Nat) (a0 : Int) (a1 : Int) (a2 : Int) (a3 : (List (Ty.den nY44))) : ng11.N N (a0, a1, a2, a3, ()) =
  Option.bind (ng23 (a0, a1, a2, a3, ())) fun y1 =>
  bif (!y1) then
    some ([], [], (1 : Int))
  else
  ng11.L0 N N a0 a1 a2 a3 [] [] (0 : Int) := by kernel_rfl
theorem ng11.L0_eq (N : Nat)  (n : Nat) (x0 : Int) (x1 : Int) (x2 : Int) (x3 : (List (Ty.den nY44))) (x11 : (List (Ty.den nY38))) (x12 : (List Int)) (x13 : Int) : ng11.L0 N  (n + 1) x0 x1 x2 x3 x11 x12 x13 =
  bif (decide (x13 < ((List.length x3 : Nat) : Int))) then
    Option.bind (ng30 (x0, x1, x2, x3, x11, x13, ())) fun y2 =>
    bif y2.2 then
      bif (decide (List.length x11 + List.length ([y2.1] : (List (Ty.den nY38))) ≤ most)) then
        ng11.S0 N n x0 x1 x2 x3 (x11 ++ ([y2.1] : (List (Ty.den nY38)))) x12 x13
      else
      none
    else
    bif (decide (List.length x12 + List.length ([x13] : (List Int)) ≤ most)) then
      ng11.S0 N n x0 x1 x2 x3 x11 (x12 ++ ([x13] : (List Int))) x13
    else
    none
  else
  ng11.S1 N x11 x12 := by kernel_rfl
theorem ng11.L0_zero (N : Nat) (x0 : Int) (x1 : Int) (x2 : Int) (x3 : (List (Ty.den nY44))) (x11 : (List (Ty.den nY38))) (x12 : (List Int)) (x13 : Int) : ng11.L0 N  0 x0 x1 x2 x3 x11 x12 x13 = none := by kernel_rfl
theorem ng11.S0_eqN (N : Nat) (n0 : Nat) (x0 : Int) (x1 : Int) (x2 : Int) (x3 : (List (Ty.den nY44))) (x11 : (List (Ty.den nY38))) (x12 : (List Int)) (x13 : Int) : ng11.S0 (N + 1) n0 x0 x1 x2 x3 x11 x12 x13 =
  ng11.L0 (N + 1) n0 x0 x1 x2 x3 x11 x12 (IntKind.i64.wrap (x13 + (1 : Int))) := by kernel_rfl
theorem ng11.S0_eq (n0 : Nat) (x0 : Int) (x1 : Int) (x2 : Int) (x3 : (List (Ty.den nY44))) (x11 : (List (Ty.den nY38))) (x12 : (List Int)) (x13 : Int) : ng11.S0 BIG n0 x0 x1 x2 x3 x11 x12 x13 =
  ng11.L0 BIG n0 x0 x1 x2 x3 x11 x12 (IntKind.i64.wrap (x13 + (1 : Int))) := ng11.S0_eqN 18446744073709551615 n0 x0 x1 x2 x3 x11 x12 x13
theorem ng11.S1_eqN (N : Nat)  (x11 : (List (Ty.den nY38))) (x12 : (List Int)) : ng11.S1 (N + 1)  x11 x12 =
  some (x11, x12, (0 : Int)) := by kernel_rfl
theorem ng11.S1_eq  (x11 : (List (Ty.den nY38))) (x12 : (List Int)) : ng11.S1 BIG  x11 x12 =
  some (x11, x12, (0 : Int)) := ng11.S1_eqN 18446744073709551615  x11 x12
noncomputable def ng11 (x : DenA ng11.A) : Option (DenR ng11.R) := ng11.N BIG x
noncomputable def ncon11 : Con := ⟨11, ng11.A, ng11.R, false, ng11, none⟩
theorem nsound11 : SoundC Try.prog Jn ncon11 :=
  sound_of (Γ := ng11.G) (tt := ntt) (cut := ng11.cut) (keep := ng11.keep) (boxes := [14]) ncon11 Try.f11 (fu := fun _ _ _ => BIG) ntt_ok Jn_keeps ((consS nsound23 (consS nsound30 noneS))) nmixed (by kernel_rfl) (by kernel_rfl) fun x r h => Eq.trans (b := Con.fn ncon11 x) (by kernel_rfl) h
/-! swarf/swarflaw39.back -/
noncomputable def ng13.G : List Con := []
def ng13.cut : Cuts := [([0, 1, 0, 1, 1], [3, 6, 7, 8], [])]
def ng13.keep : List Nat := [0, 2, 3, 5, 6, 7, 8, 9]
@[reducible] def ng13.A : List ATy := [.v (.sl nY38)]
@[reducible] def ng13.R : List Ty := [(.sl nY38)]
noncomputable def ng13.N (N : Nat) (x : DenA ng13.A) : Option (DenR ng13.R) := fnR ng13.G ntt ng13.cut ng13.keep [5] (fun _ _ => N) Try.f13 ng13.R true (encA ng13.A x)
noncomputable def ng13.L0 (N : Nat) (n : Nat) (x3 : (List (Ty.den nY38))) (x6 : (List (Ty.den nY38))) (x7 : Int) (x8 : Int) : Option (DenR ng13.R) := fromLoop ng13.G ntt ng13.cut ng13.keep (fun _ _ => N) (codeOf Try.f13) (retK ntt Try.f13 ng13.R true) [1, 1, 0, 1, 0] [] n ⟨[(3, .val ⟨(.sl nY38), x3⟩ true), (6, .val ⟨(.sl nY38), x6⟩ false), (7, .val ⟨(.int .i64), x7⟩ false), (8, .val ⟨(.int .i64), x8⟩ false)], []⟩
theorem ng13.eq (N : Nat) (a0 : (List (Ty.den nY38))) : ng13.N N (a0, ()) =
  ng13.L0 N N [] a0 ((List.length a0 : Nat) : Int) (0 : Int) := by kernel_rfl
theorem ng13.L0_eq (N : Nat)  (n : Nat) (x3 : (List (Ty.den nY38))) (x6 : (List (Ty.den nY38))) (x7 : Int) (x8 : Int) : ng13.L0 N  (n + 1) x3 x6 x7 x8 =
  bif (decide (x8 < x7)) then
    Option.bind (idx x6 x8) fun r1 =>
    bif (decide (List.length x3 + List.length ([(r1.1, r1.2.1, r1.2.2.1, r1.2.2.2.1, ())] : (List (Ty.den nY38))) ≤ most)) then
      ng13.L0 N n (x3 ++ ([(r1.1, r1.2.1, r1.2.2.1, r1.2.2.2.1, ())] : (List (Ty.den nY38)))) x6 x7 (IntKind.i64.wrap (x8 + (1 : Int)))
    else
    none
  else
  some x3 := by kernel_rfl
theorem ng13.L0_zero (N : Nat) (x3 : (List (Ty.den nY38))) (x6 : (List (Ty.den nY38))) (x7 : Int) (x8 : Int) : ng13.L0 N  0 x3 x6 x7 x8 = none := by kernel_rfl
noncomputable def ng13 (x : DenA ng13.A) : Option (DenR ng13.R) := ng13.N BIG x
noncomputable def ncon13 : Con := ⟨13, ng13.A, ng13.R, true, ng13, none⟩
theorem nsound13 : SoundC Try.prog Jn ncon13 :=
  sound_of (Γ := ng13.G) (tt := ntt) (cut := ng13.cut) (keep := ng13.keep) (boxes := [5]) ncon13 Try.f13 (fu := fun _ _ _ => BIG) ntt_ok Jn_keeps (noneS) nmixed (by kernel_rfl) (by kernel_rfl) fun x r h => Eq.trans (b := Con.fn ncon13 x) (by kernel_rfl) h
/-! slices.Equal[[]swarf/swarfref39.Place,swarf/swarfref39.Place] -/
noncomputable def ng12.G : List Con := []
def ng12.cut : Cuts := [([0, 1, 0, 1, 1], [0, 1, 12, 13], [])]
def ng12.keep : List Nat := [0, 1, 4, 5, 10, 12, 13, 14, 24]
@[reducible] def ng12.A : List ATy := [.v (.sl nY38), .v (.sl nY38)]
@[reducible] def ng12.R : List Ty := [.bool]
noncomputable def ng12.N (N : Nat) (x : DenA ng12.A) : Option (DenR ng12.R) := fnR ng12.G ntt ng12.cut ng12.keep [] (fun _ _ => N) Try.f12 ng12.R false (encA ng12.A x)
noncomputable def ng12.L0 (N : Nat) (n : Nat) (x0 : (List (Ty.den nY38))) (x1 : (List (Ty.den nY38))) (x12 : Int) (x13 : Int) : Option (DenR ng12.R) := fromLoop ng12.G ntt ng12.cut ng12.keep (fun _ _ => N) (codeOf Try.f12) (retK ntt Try.f12 ng12.R false) [1, 1, 0, 1, 0] [] n ⟨[(0, .val ⟨(.sl nY38), x0⟩ false), (1, .val ⟨(.sl nY38), x1⟩ false), (12, .val ⟨(.int .i64), x12⟩ false), (13, .val ⟨(.int .i64), x13⟩ false)], []⟩
theorem ng12.eq (N : Nat) (a0 : (List (Ty.den nY38))) (a1 : (List (Ty.den nY38))) : ng12.N N (a0, a1, ()) =
  bif (((List.length a0 : Nat) : Int) != ((List.length a1 : Nat) : Int)) then
    some false
  else
  ng12.L0 N N a0 a1 ((List.length a0 : Nat) : Int) (0 : Int) := by kernel_rfl
theorem ng12.L0_eq (N : Nat)  (n : Nat) (x0 : (List (Ty.den nY38))) (x1 : (List (Ty.den nY38))) (x12 : Int) (x13 : Int) : ng12.L0 N  (n + 1) x0 x1 x12 x13 =
  bif (decide (x13 < x12)) then
    Option.bind (idx x0 x13) fun r1 =>
    Option.bind (idx x1 x13) fun r2 =>
    bif (!(eqD nY38 r1 r2)) then
      some false
    else
    ng12.L0 N n x0 x1 x12 (IntKind.i64.wrap (x13 + (1 : Int)))
  else
  some true := by kernel_rfl
theorem ng12.L0_zero (N : Nat) (x0 : (List (Ty.den nY38))) (x1 : (List (Ty.den nY38))) (x12 : Int) (x13 : Int) : ng12.L0 N  0 x0 x1 x12 x13 = none := by kernel_rfl
noncomputable def ng12 (x : DenA ng12.A) : Option (DenR ng12.R) := ng12.N BIG x
noncomputable def ncon12 : Con := ⟨12, ng12.A, ng12.R, false, ng12, none⟩
theorem nsound12 : SoundC Try.prog Jn ncon12 :=
  sound_of (Γ := ng12.G) (tt := ntt) (cut := ng12.cut) (keep := ng12.keep) (boxes := []) ncon12 Try.f12 (fu := fun _ _ _ => BIG) ntt_ok Jn_keeps (noneS) nmixed (by kernel_rfl) (by kernel_rfl) fun x r h => Eq.trans (b := Con.fn ncon12 x) (by kernel_rfl) h
/-! swarf/swarflaw39.places -/
noncomputable def ng17.G : List Con := []
def ng17.cut : Cuts := [([0, 1, 0, 1, 1], [3, 6, 7, 8], [])]
def ng17.keep : List Nat := [0, 2, 3, 5, 6, 7, 8, 9]
@[reducible] def ng17.A : List ATy := [.v (.sl nY38)]
@[reducible] def ng17.R : List Ty := [(.sl nY38)]
noncomputable def ng17.N (N : Nat) (x : DenA ng17.A) : Option (DenR ng17.R) := fnR ng17.G ntt ng17.cut ng17.keep [5] (fun _ _ => N) Try.f17 ng17.R true (encA ng17.A x)
noncomputable def ng17.L0 (N : Nat) (n : Nat) (x3 : (List (Ty.den nY38))) (x6 : (List (Ty.den nY38))) (x7 : Int) (x8 : Int) : Option (DenR ng17.R) := fromLoop ng17.G ntt ng17.cut ng17.keep (fun _ _ => N) (codeOf Try.f17) (retK ntt Try.f17 ng17.R true) [1, 1, 0, 1, 0] [] n ⟨[(3, .val ⟨(.sl nY38), x3⟩ true), (6, .val ⟨(.sl nY38), x6⟩ false), (7, .val ⟨(.int .i64), x7⟩ false), (8, .val ⟨(.int .i64), x8⟩ false)], []⟩
theorem ng17.eq (N : Nat) (a0 : (List (Ty.den nY38))) : ng17.N N (a0, ()) =
  ng17.L0 N N [] a0 ((List.length a0 : Nat) : Int) (0 : Int) := by kernel_rfl
theorem ng17.L0_eq (N : Nat)  (n : Nat) (x3 : (List (Ty.den nY38))) (x6 : (List (Ty.den nY38))) (x7 : Int) (x8 : Int) : ng17.L0 N  (n + 1) x3 x6 x7 x8 =
  bif (decide (x8 < x7)) then
    Option.bind (idx x6 x8) fun r1 =>
    bif (decide (List.length x3 + List.length ([(r1.1, r1.2.1, r1.2.2.1, r1.2.2.2.1, ())] : (List (Ty.den nY38))) ≤ most)) then
      ng17.L0 N n (x3 ++ ([(r1.1, r1.2.1, r1.2.2.1, r1.2.2.2.1, ())] : (List (Ty.den nY38)))) x6 x7 (IntKind.i64.wrap (x8 + (1 : Int)))
    else
    none
  else
  some x3 := by kernel_rfl
theorem ng17.L0_zero (N : Nat) (x3 : (List (Ty.den nY38))) (x6 : (List (Ty.den nY38))) (x7 : Int) (x8 : Int) : ng17.L0 N  0 x3 x6 x7 x8 = none := by kernel_rfl
noncomputable def ng17 (x : DenA ng17.A) : Option (DenR ng17.R) := ng17.N BIG x
noncomputable def ncon17 : Con := ⟨17, ng17.A, ng17.R, true, ng17, none⟩
theorem nsound17 : SoundC Try.prog Jn ncon17 :=
  sound_of (Γ := ng17.G) (tt := ntt) (cut := ng17.cut) (keep := ng17.keep) (boxes := [5]) ncon17 Try.f17 (fu := fun _ _ _ => BIG) ntt_ok Jn_keeps (noneS) nmixed (by kernel_rfl) (by kernel_rfl) fun x r h => Eq.trans (b := Con.fn ncon17 x) (by kernel_rfl) h
/-! slices.Equal[[]swarf/api.Grid2,swarf/api.Grid2] -/
noncomputable def ng15.G : List Con := []
def ng15.cut : Cuts := [([0, 1, 0, 1, 1], [0, 1, 12, 13], [])]
def ng15.keep : List Nat := [0, 1, 4, 5, 10, 12, 13, 14, 24]
@[reducible] def ng15.A : List ATy := [.v (.sl nY44), .v (.sl nY44)]
@[reducible] def ng15.R : List Ty := [.bool]
noncomputable def ng15.N (N : Nat) (x : DenA ng15.A) : Option (DenR ng15.R) := fnR ng15.G ntt ng15.cut ng15.keep [] (fun _ _ => N) Try.f15 ng15.R false (encA ng15.A x)
noncomputable def ng15.L0 (N : Nat) (n : Nat) (x0 : (List (Ty.den nY44))) (x1 : (List (Ty.den nY44))) (x12 : Int) (x13 : Int) : Option (DenR ng15.R) := fromLoop ng15.G ntt ng15.cut ng15.keep (fun _ _ => N) (codeOf Try.f15) (retK ntt Try.f15 ng15.R false) [1, 1, 0, 1, 0] [] n ⟨[(0, .val ⟨(.sl nY44), x0⟩ false), (1, .val ⟨(.sl nY44), x1⟩ false), (12, .val ⟨(.int .i64), x12⟩ false), (13, .val ⟨(.int .i64), x13⟩ false)], []⟩
theorem ng15.eq (N : Nat) (a0 : (List (Ty.den nY44))) (a1 : (List (Ty.den nY44))) : ng15.N N (a0, a1, ()) =
  bif (((List.length a0 : Nat) : Int) != ((List.length a1 : Nat) : Int)) then
    some false
  else
  ng15.L0 N N a0 a1 ((List.length a0 : Nat) : Int) (0 : Int) := by kernel_rfl
theorem ng15.L0_eq (N : Nat)  (n : Nat) (x0 : (List (Ty.den nY44))) (x1 : (List (Ty.den nY44))) (x12 : Int) (x13 : Int) : ng15.L0 N  (n + 1) x0 x1 x12 x13 =
  bif (decide (x13 < x12)) then
    Option.bind (idx x0 x13) fun r1 =>
    Option.bind (idx x1 x13) fun r2 =>
    bif (!(eqD nY44 r1 r2)) then
      some false
    else
    ng15.L0 N n x0 x1 x12 (IntKind.i64.wrap (x13 + (1 : Int)))
  else
  some true := by kernel_rfl
theorem ng15.L0_zero (N : Nat) (x0 : (List (Ty.den nY44))) (x1 : (List (Ty.den nY44))) (x12 : Int) (x13 : Int) : ng15.L0 N  0 x0 x1 x12 x13 = none := by kernel_rfl
noncomputable def ng15 (x : DenA ng15.A) : Option (DenR ng15.R) := ng15.N BIG x
noncomputable def ncon15 : Con := ⟨15, ng15.A, ng15.R, false, ng15, none⟩
theorem nsound15 : SoundC Try.prog Jn ncon15 :=
  sound_of (Γ := ng15.G) (tt := ntt) (cut := ng15.cut) (keep := ng15.keep) (boxes := []) ncon15 Try.f15 (fu := fun _ _ _ => BIG) ntt_ok Jn_keeps (noneS) nmixed (by kernel_rfl) (by kernel_rfl) fun x r h => Eq.trans (b := Con.fn ncon15 x) (by kernel_rfl) h
/-! slices.Clone[[]swarf/nest.Place,swarf/nest.Place] -/
noncomputable def ng39.G : List Con := []
def ng39.cut : Cuts := [([1], [0], [])]
def ng39.keep : List Nat := [0, 2, 4]
@[reducible] def ng39.A : List ATy := [.v (.sl nY38)]
@[reducible] def ng39.R : List Ty := [(.sl nY38)]
noncomputable def ng39.N (N : Nat) (x : DenA ng39.A) : Option (DenR ng39.R) := fnR ng39.G ntt ng39.cut ng39.keep [] (fun _ _ => N) Try.f39 ng39.R true (encA ng39.A x)
noncomputable def ng39.S0 (N : Nat) (x0 : (List (Ty.den nY38))) : Option (DenR ng39.R) := fromSeq ng39.G ntt ng39.cut ng39.keep (fun _ _ => N) (codeOf Try.f39) (retK ntt Try.f39 ng39.R true) [1] [] ⟨[(0, .val ⟨(.sl nY38), x0⟩ false)], []⟩
theorem ng39.eq (N : Nat) (a0 : (List (Ty.den nY38))) : ng39.N N (a0, ()) =
  bif (List.isEmpty a0) then
    both (
      some []) (
      ng39.S0 N a0)
  else
  ng39.S0 N a0 := by kernel_rfl
theorem ng39.S0_eqN (N : Nat)  (x0 : (List (Ty.den nY38))) : ng39.S0 (N + 1)  x0 =
  bif (decide (List.length ([] : (List (Ty.den nY38))) + List.length x0 ≤ most)) then
    some (([] : (List (Ty.den nY38))) ++ x0)
  else
  none := by kernel_rfl
theorem ng39.S0_eq  (x0 : (List (Ty.den nY38))) : ng39.S0 BIG  x0 =
  bif (decide (List.length ([] : (List (Ty.den nY38))) + List.length x0 ≤ most)) then
    some (([] : (List (Ty.den nY38))) ++ x0)
  else
  none := ng39.S0_eqN 18446744073709551615  x0
noncomputable def ng39 (x : DenA ng39.A) : Option (DenR ng39.R) := ng39.N BIG x
noncomputable def ncon39 : Con := ⟨39, ng39.A, ng39.R, true, ng39, none⟩
theorem nsound39 : SoundC Try.prog Jn ncon39 :=
  sound_of (Γ := ng39.G) (tt := ntt) (cut := ng39.cut) (keep := ng39.keep) (boxes := []) ncon39 Try.f39 (fu := fun _ _ _ => BIG) ntt_ok Jn_keeps (noneS) nmixed (by kernel_rfl) (by kernel_rfl) fun x r h => Eq.trans (b := Con.fn ncon39 x) (by kernel_rfl) h
/-! swarf/nest.Fits -/
noncomputable def ng21.G : List Con := [ncon19, ncon39]
def ng21.cut : Cuts := []
def ng21.keep : List Nat := [0, 1, 2, 3, 4, 11, 12]
@[reducible] def ng21.A : List ATy := [.v (.int .i64), .v (.int .i64), .v (.int .i64), .v (.sl nY44), .v (.sl nY38), .v nY38]
@[reducible] def ng21.R : List Ty := [.bool]
noncomputable def ng21.N (N : Nat) (x : DenA ng21.A) : Option (DenR ng21.R) := fnR ng21.G ntt ng21.cut ng21.keep [11] (fun _ _ => N) Try.f21 ng21.R false (encA ng21.A x)
theorem ng21.eq (N : Nat) (a0 : Int) (a1 : Int) (a2 : Int) (a3 : (List (Ty.den nY44))) (a4 : (List (Ty.den nY38))) (a5 : (Ty.den nY38)) : ng21.N N (a0, a1, a2, a3, a4, a5, ()) =
  Option.bind (ng19 (a0, a1, a2, a3, a4, ())) fun y1 =>
  bif y1 then
    Option.bind (ng39 (a4, ())) fun y2 =>
    bif (decide (List.length y2 + List.length ([a5] : (List (Ty.den nY38))) ≤ most)) then
      Option.bind (ng19 (a0, a1, a2, a3, (y2 ++ ([a5] : (List (Ty.den nY38)))), ())) fun y3 =>
      some y3
    else
    none
  else
  some false := by kernel_rfl
noncomputable def ng21 (x : DenA ng21.A) : Option (DenR ng21.R) := ng21.N BIG x
noncomputable def ncon21 : Con := ⟨21, ng21.A, ng21.R, false, ng21, none⟩
theorem nsound21 : SoundC Try.prog Jn ncon21 :=
  sound_of (Γ := ng21.G) (tt := ntt) (cut := ng21.cut) (keep := ng21.keep) (boxes := [11]) ncon21 Try.f21 (fu := fun _ _ _ => BIG) ntt_ok Jn_keeps ((consS nsound19 (consS nsound39 noneS))) nmixed (by kernel_rfl) (by kernel_rfl) fun x r h => Eq.trans (b := Con.fn ncon21 x) (by kernel_rfl) h
end Go.Ev
