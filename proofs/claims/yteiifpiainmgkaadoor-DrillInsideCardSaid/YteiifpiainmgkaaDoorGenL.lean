/-
  PRINTED by the generator of this repo (wip/gen/gen.py): functions of the program as plain Lean functions, with an equation for each part and the proof that the Go calls do what they tell.
-/
import Derived.Test.YteiifpiainmgkaaDoorGenK
import Derived.Test.YteiifpiainmgkaaDoorProg
import Derived.KernelRfl
namespace Go.Ev
open Go Go.Proofs
set_option linter.unusedVariables false
/-! swarf/interpolate.Positions$1 -/
noncomputable def dg37m.G : List Con := []
def dg37m.cut : Cuts := []
def dg37m.keep : List Nat := []
@[reducible] def dg37m.A : List ATy := [.v (.int .i64), .v (.sl dY31), .v (.sl dY31)]
@[reducible] def dg37m.R : List Ty := [(.sl dY31)]
noncomputable def dg37m.N (N : Nat) (x : DenA dg37m.A) : Option (DenR dg37m.R) := fnM dg37m.G dtt dg37m.cut dg37m.keep [] (fun _ _ => N) Tryd.f37 dg37m.R 2 none [0] (encA dg37m.A x)
theorem dg37m.eq (N : Nat) (a0 : Int) (a1 : (List (Ty.den dY31))) (a2 : (List (Ty.den dY31))) : dg37m.N N (a0, a1, a2, ()) =
  bif (decide (List.length a2 + List.length a1 ≤ most)) then
    some (a2 ++ a1)
  else
  none := by kernel_rfl
noncomputable def dg37m (x : DenA dg37m.A) : Option (DenR dg37m.R) := dg37m.N BIG x
noncomputable def dcon37m : Con := ⟨37, dg37m.A, dg37m.R, false, dg37m, (some (2, none, [0]))⟩
theorem dsound37m : SoundC Tryd.prog Jd dcon37m :=
  sound_ofM (Γ := dg37m.G) (tt := dtt) (cut := dg37m.cut) (keep := dg37m.keep) (boxes := []) (pos := 2) (cl := none) (own := [0]) dcon37m Tryd.f37 (fu := fun _ _ _ => BIG) dtt_ok Jd_keeps (noneS) dmixed (by kernel_rfl) (by kernel_rfl) (fun x r h => Eq.trans (b := Con.fn dcon37m x) (by kernel_rfl) h) (by kernel_rfl)
/-! swarf/interpolate.each -/
noncomputable def dg36m.G : List Con := [dcon21, dcon33, dcon40, dcon37m]
def dg36m.cut : Cuts := [([0, 1, 0, 1, 1], [2, 3, 7, 13, 14, 15], [3, 1000000]), ([1, 1, 1, 0, 0, 1, 1, 0, 0, 1, 0, 1, 1], [2, 3, 7, 8, 9, 11, 13, 14, 15], [3, 9, 1000000]), ([1, 1], [7], [1000000]), ([1, 1, 1, 1, 0, 0, 1, 1, 0, 0, 1, 0, 1, 1], [2, 3, 7, 9, 13, 14, 15], [3, 9, 1000000])]
def dg36m.keep : List Nat := [1, 2, 3, 6, 7, 8, 9, 10, 11, 12, 13, 14, 15, 16, 24, 30, 38, 45, 54]
@[reducible] def dg36m.A : List ATy := [.v dY31, .v (.sl dY47), .v (.sl dY31)]
@[reducible] def dg36m.R : List Ty := [(.int .i64), (.sl dY31)]
noncomputable def dg36m.N (N : Nat) (x : DenA dg36m.A) : Option (DenR dg36m.R) := fnM dg36m.G dtt dg36m.cut dg36m.keep [3, 9] (fun _ _ => N) Tryd.f36 dg36m.R 2 (some 37) [0] (encA dg36m.A x)
noncomputable def dg36m.L0 (N : Nat) (n : Nat) (x7 : Int) (x13 : (List (Ty.den dY47))) (x14 : Int) (x15 : Int) (b3 : (Ty.den dY31)) (b1000000 : (List (Ty.den dY31))) : Option (DenR dg36m.R) := fromLoop dg36m.G dtt dg36m.cut dg36m.keep (fun _ _ => N) (codeOf Tryd.f36) (retM dtt Tryd.f36 dg36m.R [0]) [1, 1, 0, 1, 0] [] n ⟨[(2, .clo 37 [.ref 1000000 0]), (3, .ref 3 0), (7, .val ⟨(.int .i64), x7⟩ false), (13, .val ⟨(.sl dY47), x13⟩ false), (14, .val ⟨(.int .i64), x14⟩ false), (15, .val ⟨(.int .i64), x15⟩ false)], [(3, ⟨dY31, b3, []⟩), (1000000, ⟨(.sl dY31), b1000000, [0]⟩)]⟩
noncomputable def dg36m.S0 (N : Nat) (n0 : Nat) (x7 : Int) (x8 : Int) (x11 : (List (Ty.den dY31))) (x13 : (List (Ty.den dY47))) (x14 : Int) (x15 : Int) (b3 : (Ty.den dY31)) (b9 : (Ty.den dY47)) (b1000000 : (List (Ty.den dY31))) : Option (DenR dg36m.R) := fromSeq dg36m.G dtt dg36m.cut dg36m.keep (fun _ _ => N) (codeOf Tryd.f36) (retM dtt Tryd.f36 dg36m.R [0]) [1, 1, 0, 1, 0, 0, 1, 1, 0, 0, 1, 1, 1] [n0] ⟨[(2, .clo 37 [.ref 1000000 0]), (3, .ref 3 0), (7, .val ⟨(.int .i64), x7⟩ false), (8, .val ⟨(.int .i64), x8⟩ false), (9, .ref 9 0), (11, .val ⟨(.sl dY31), x11⟩ false), (13, .val ⟨(.sl dY47), x13⟩ false), (14, .val ⟨(.int .i64), x14⟩ false), (15, .val ⟨(.int .i64), x15⟩ false)], [(3, ⟨dY31, b3, []⟩), (9, ⟨dY47, b9, []⟩), (1000000, ⟨(.sl dY31), b1000000, [0]⟩)]⟩
noncomputable def dg36m.S0_1 (N : Nat) (n0 : Nat) (x7 : Int) (x8 : Int) (x11 : (List (Ty.den dY31))) (x13 : (List (Ty.den dY47))) (x14 : Int) (x15 : Int) (b3 : (Ty.den dY31)) (b9 : (Ty.den dY47)) (b1000000 : (List (Ty.den dY31))) : Option (DenR dg36m.R) := fromSeq dg36m.G dtt dg36m.cut dg36m.keep (fun _ _ => N) (codeOf Tryd.f36) (retM dtt Tryd.f36 dg36m.R [0]) [1, 1, 0, 1, 0, 0, 1, 1, 0, 0, 1, 1, 1] [n0] ⟨[(2, .clo 37 [.ref 1000000 0]), (3, .ref 3 0), (7, .val ⟨(.int .i64), x7⟩ false), (8, .val ⟨(.int .i64), x8⟩ false), (9, .ref 9 0), (11, .val ⟨(.sl dY31), x11⟩ true), (13, .val ⟨(.sl dY47), x13⟩ false), (14, .val ⟨(.int .i64), x14⟩ false), (15, .val ⟨(.int .i64), x15⟩ false)], [(3, ⟨dY31, b3, []⟩), (9, ⟨dY47, b9, []⟩), (1000000, ⟨(.sl dY31), b1000000, [0]⟩)]⟩
noncomputable def dg36m.S1 (N : Nat) (x7 : Int) (b1000000 : (List (Ty.den dY31))) : Option (DenR dg36m.R) := fromSeq dg36m.G dtt dg36m.cut dg36m.keep (fun _ _ => N) (codeOf Tryd.f36) (retM dtt Tryd.f36 dg36m.R [0]) [1, 1] [] ⟨[(7, .val ⟨(.int .i64), x7⟩ false)], [(1000000, ⟨(.sl dY31), b1000000, [0]⟩)]⟩
noncomputable def dg36m.S2 (N : Nat) (n0 : Nat) (x7 : Int) (x13 : (List (Ty.den dY47))) (x14 : Int) (x15 : Int) (b3 : (Ty.den dY31)) (b9 : (Ty.den dY47)) (b1000000 : (List (Ty.den dY31))) : Option (DenR dg36m.R) := fromSeq dg36m.G dtt dg36m.cut dg36m.keep (fun _ _ => N) (codeOf Tryd.f36) (retM dtt Tryd.f36 dg36m.R [0]) [1, 1, 0, 1, 0, 0, 1, 1, 0, 0, 1, 1, 1, 1] [n0] ⟨[(2, .clo 37 [.ref 1000000 0]), (3, .ref 3 0), (7, .val ⟨(.int .i64), x7⟩ false), (9, .ref 9 0), (13, .val ⟨(.sl dY47), x13⟩ false), (14, .val ⟨(.int .i64), x14⟩ false), (15, .val ⟨(.int .i64), x15⟩ false)], [(3, ⟨dY31, b3, []⟩), (9, ⟨dY47, b9, []⟩), (1000000, ⟨(.sl dY31), b1000000, [0]⟩)]⟩
theorem dg36m.eq (N : Nat) (a0 : (Ty.den dY31)) (a1 : (List (Ty.den dY47))) (a2 : (List (Ty.den dY31))) : dg36m.N N (a0, a1, a2, ()) =
  dg36m.L0 N N (0 : Int) a1 ((List.length a1 : Nat) : Int) (0 : Int) a0 a2 := by kernel_rfl
theorem dg36m.L0_eq (N : Nat)  (n : Nat) (x7 : Int) (x13 : (List (Ty.den dY47))) (x14 : Int) (x15 : Int) (b3 : (Ty.den dY31)) (b1000000 : (List (Ty.den dY31))) : dg36m.L0 N  (n + 1) x7 x13 x14 x15 b3 b1000000 =
  bif (decide (x15 < x14)) then
    Option.bind (idx x13 x15) fun r1 =>
    Option.bind (dg21 (b3, r1, ())) fun y2 =>
    bif (y2 != (0 : Int)) then
      some (y2, b1000000)
    else
    Option.bind (dg33 (r1, ())) fun y3 =>
    bif y3 then
      Option.bind (dg40 (b3, r1, ())) fun y4 =>
      bif (y4.2 != (0 : Int)) then
        some (y4.2, b1000000)
      else
      dg36m.S0 N n x7 x15 y4.1 x13 x14 x15 b3 r1 b1000000
    else
    dg36m.S0_1 N n x7 x15 [r1.2.1] x13 x14 x15 b3 r1 b1000000
  else
  dg36m.S1 N x7 b1000000 := by kernel_rfl
theorem dg36m.L0_zero (N : Nat) (x7 : Int) (x13 : (List (Ty.den dY47))) (x14 : Int) (x15 : Int) (b3 : (Ty.den dY31)) (b1000000 : (List (Ty.den dY31))) : dg36m.L0 N  0 x7 x13 x14 x15 b3 b1000000 = none := by kernel_rfl
theorem dg36m.S0_eqN (N : Nat) (n0 : Nat) (x7 : Int) (x8 : Int) (x11 : (List (Ty.den dY31))) (x13 : (List (Ty.den dY47))) (x14 : Int) (x15 : Int) (b3 : (Ty.den dY31)) (b9 : (Ty.den dY47)) (b1000000 : (List (Ty.den dY31))) : dg36m.S0 (N + 1) n0 x7 x8 x11 x13 x14 x15 b3 b9 b1000000 =
  bif (decide ((IntKind.i64.wrap (x7 + ((List.length x11 : Nat) : Int))) ≤ (20000 : Int))) then
    Option.bind (dg37m (x8, x11, b1000000, ())) fun y5 =>
    dg36m.S2 (N + 1) n0 (IntKind.i64.wrap (x7 + ((List.length x11 : Nat) : Int))) x13 x14 x15 b3 b9 y5
  else
  dg36m.S2 (N + 1) n0 (IntKind.i64.wrap (x7 + ((List.length x11 : Nat) : Int))) x13 x14 x15 b3 b9 b1000000 := by kernel_rfl
theorem dg36m.S0_eq (n0 : Nat) (x7 : Int) (x8 : Int) (x11 : (List (Ty.den dY31))) (x13 : (List (Ty.den dY47))) (x14 : Int) (x15 : Int) (b3 : (Ty.den dY31)) (b9 : (Ty.den dY47)) (b1000000 : (List (Ty.den dY31))) : dg36m.S0 BIG n0 x7 x8 x11 x13 x14 x15 b3 b9 b1000000 =
  bif (decide ((IntKind.i64.wrap (x7 + ((List.length x11 : Nat) : Int))) ≤ (20000 : Int))) then
    Option.bind (dg37m (x8, x11, b1000000, ())) fun y5 =>
    dg36m.S2 BIG n0 (IntKind.i64.wrap (x7 + ((List.length x11 : Nat) : Int))) x13 x14 x15 b3 b9 y5
  else
  dg36m.S2 BIG n0 (IntKind.i64.wrap (x7 + ((List.length x11 : Nat) : Int))) x13 x14 x15 b3 b9 b1000000 := dg36m.S0_eqN 18446744073709551615 n0 x7 x8 x11 x13 x14 x15 b3 b9 b1000000
theorem dg36m.S0_1_eqN (N : Nat) (n0 : Nat) (x7 : Int) (x8 : Int) (x11 : (List (Ty.den dY31))) (x13 : (List (Ty.den dY47))) (x14 : Int) (x15 : Int) (b3 : (Ty.den dY31)) (b9 : (Ty.den dY47)) (b1000000 : (List (Ty.den dY31))) : dg36m.S0_1 (N + 1) n0 x7 x8 x11 x13 x14 x15 b3 b9 b1000000 =
  bif (decide ((IntKind.i64.wrap (x7 + ((List.length x11 : Nat) : Int))) ≤ (20000 : Int))) then
    Option.bind (dg37m (x8, x11, b1000000, ())) fun y6 =>
    dg36m.S2 (N + 1) n0 (IntKind.i64.wrap (x7 + ((List.length x11 : Nat) : Int))) x13 x14 x15 b3 b9 y6
  else
  dg36m.S2 (N + 1) n0 (IntKind.i64.wrap (x7 + ((List.length x11 : Nat) : Int))) x13 x14 x15 b3 b9 b1000000 := by kernel_rfl
theorem dg36m.S0_1_eq (n0 : Nat) (x7 : Int) (x8 : Int) (x11 : (List (Ty.den dY31))) (x13 : (List (Ty.den dY47))) (x14 : Int) (x15 : Int) (b3 : (Ty.den dY31)) (b9 : (Ty.den dY47)) (b1000000 : (List (Ty.den dY31))) : dg36m.S0_1 BIG n0 x7 x8 x11 x13 x14 x15 b3 b9 b1000000 =
  bif (decide ((IntKind.i64.wrap (x7 + ((List.length x11 : Nat) : Int))) ≤ (20000 : Int))) then
    Option.bind (dg37m (x8, x11, b1000000, ())) fun y6 =>
    dg36m.S2 BIG n0 (IntKind.i64.wrap (x7 + ((List.length x11 : Nat) : Int))) x13 x14 x15 b3 b9 y6
  else
  dg36m.S2 BIG n0 (IntKind.i64.wrap (x7 + ((List.length x11 : Nat) : Int))) x13 x14 x15 b3 b9 b1000000 := dg36m.S0_1_eqN 18446744073709551615 n0 x7 x8 x11 x13 x14 x15 b3 b9 b1000000
theorem dg36m.S1_eqN (N : Nat)  (x7 : Int) (b1000000 : (List (Ty.den dY31))) : dg36m.S1 (N + 1)  x7 b1000000 =
  bif (decide (x7 > (20000 : Int))) then
    some ((3 : Int), b1000000)
  else
  some ((0 : Int), b1000000) := by kernel_rfl
theorem dg36m.S1_eq  (x7 : Int) (b1000000 : (List (Ty.den dY31))) : dg36m.S1 BIG  x7 b1000000 =
  bif (decide (x7 > (20000 : Int))) then
    some ((3 : Int), b1000000)
  else
  some ((0 : Int), b1000000) := dg36m.S1_eqN 18446744073709551615  x7 b1000000
theorem dg36m.S2_eqN (N : Nat) (n0 : Nat) (x7 : Int) (x13 : (List (Ty.den dY47))) (x14 : Int) (x15 : Int) (b3 : (Ty.den dY31)) (b9 : (Ty.den dY47)) (b1000000 : (List (Ty.den dY31))) : dg36m.S2 (N + 1) n0 x7 x13 x14 x15 b3 b9 b1000000 =
  dg36m.L0 (N + 1) n0 x7 x13 x14 (IntKind.i64.wrap (x15 + (1 : Int))) b9.2.1 b1000000 := by kernel_rfl
theorem dg36m.S2_eq (n0 : Nat) (x7 : Int) (x13 : (List (Ty.den dY47))) (x14 : Int) (x15 : Int) (b3 : (Ty.den dY31)) (b9 : (Ty.den dY47)) (b1000000 : (List (Ty.den dY31))) : dg36m.S2 BIG n0 x7 x13 x14 x15 b3 b9 b1000000 =
  dg36m.L0 BIG n0 x7 x13 x14 (IntKind.i64.wrap (x15 + (1 : Int))) b9.2.1 b1000000 := dg36m.S2_eqN 18446744073709551615 n0 x7 x13 x14 x15 b3 b9 b1000000
noncomputable def dg36m (x : DenA dg36m.A) : Option (DenR dg36m.R) := dg36m.N BIG x
noncomputable def dcon36m : Con := ⟨36, dg36m.A, dg36m.R, false, dg36m, (some (2, (some 37), [0]))⟩
theorem dsound36m : SoundC Tryd.prog Jd dcon36m :=
  sound_ofM (Γ := dg36m.G) (tt := dtt) (cut := dg36m.cut) (keep := dg36m.keep) (boxes := [3, 9]) (pos := 2) (cl := (some 37)) (own := [0]) dcon36m Tryd.f36 (fu := fun _ _ _ => BIG) dtt_ok Jd_keeps ((consS dsound21 (consS dsound33 (consS dsound40 (consS dsound37m noneS))))) dmixed (by kernel_rfl) (by kernel_rfl) (fun x r h => Eq.trans (b := Con.fn dcon36m x) (by kernel_rfl) h) (by kernel_rfl)
/-! swarf/interpolate.Positions -/
noncomputable def dg22.G : List Con := [dcon36m]
def dg22.cut : Cuts := []
def dg22.keep : List Nat := [1, 2, 4, 5, 6, 7, 13]
@[reducible] def dg22.A : List ATy := [.v dY31, .v (.sl dY47)]
@[reducible] def dg22.R : List Ty := [(.sl dY31), (.int .i64)]
noncomputable def dg22.N (N : Nat) (x : DenA dg22.A) : Option (DenR dg22.R) := fnR dg22.G dtt dg22.cut dg22.keep [2, 6] (fun _ _ => N) Tryd.f22 dg22.R false (encA dg22.A x)
theorem dg22.eq (N : Nat) (a0 : (Ty.den dY31)) (a1 : (List (Ty.den dY47))) : dg22.N N (a0, a1, ()) =
  Option.bind (dg36m (a0, a1, [], ())) fun y1 =>
  bif (y1.1 != (0 : Int)) then
    some ([], y1.1)
  else
  some (y1.2, (0 : Int)) := by kernel_rfl
noncomputable def dg22 (x : DenA dg22.A) : Option (DenR dg22.R) := dg22.N BIG x
noncomputable def dcon22 : Con := ⟨22, dg22.A, dg22.R, false, dg22, none⟩
theorem dsound22 : SoundC Tryd.prog Jd dcon22 :=
  sound_of (Γ := dg22.G) (tt := dtt) (cut := dg22.cut) (keep := dg22.keep) (boxes := [2, 6]) dcon22 Tryd.f22 (fu := fun _ _ _ => BIG) dtt_ok Jd_keeps ((consS dsound36m noneS)) dmixed (by kernel_rfl) (by kernel_rfl) fun x r h => Eq.trans (b := Con.fn dcon22 x) (by kernel_rfl) h
end Go.Ev
