/-
  PRINTED by the generator of this repo (wip/gen/gen.py): functions of the program as plain Lean functions, with an equation for each part and the proof that the Go calls do what they tell.
-/
import Derived.Test.YteiifpiainmgkaaDoorDrJ
import Derived.Test.YteiifpiainmgkaaDoorProg
import Derived.KernelRfl
namespace Go.Ev
open Go Go.Proofs
set_option linter.unusedVariables false
@[reducible] def dY29 : Ty := (.pair (.int .i64) (.pair (.int .i64) .unit))
@[reducible] def dY31 : Ty := (.pair (.int .i64) dY29)
@[reducible] def dY32 : Ty := (.pair (.int .i64) (.pair (.int .i64) (.pair (.int .i64) (.pair (.int .i64) (.pair (.int .i64) dY31)))))
@[reducible] def dY47 : Ty := (.pair (.int .i64) (.pair dY31 (.pair dY29 (.pair (.int .i64) .unit))))
noncomputable def dtt : TT := [
  (2, ⟨(.int .i64), 0, 8, [], 0, true⟩),
  (3, ⟨(.int .i64), 0, 8, [], 0, true⟩),
  (4, ⟨.bool, 0, 1, [], 0, true⟩),
  (9, ⟨.str, 0, 16, [], 0, true⟩),
  (23, ⟨(.sl (.int .i64)), 2, 24, [], 0, false⟩),
  (24, ⟨(.int .i64), 0, 8, [], 0, true⟩),
  (30, ⟨dY29, 0, 16, [(0, 2, (.int .i64)), (1, 2, (.int .i64))], 0, true⟩),
  (31, ⟨dY31, 2, 24, [(0, 2, (.int .i64)), (1, 2, (.int .i64)), (2, 2, (.int .i64))], 3, false⟩),
  (33, ⟨dY32, 0, 64, [(0, 3, (.int .i64)), (1, 3, (.int .i64)), (2, 2, (.int .i64)), (3, 2, (.int .i64)), (4, 2, (.int .i64)), (5, 2, (.int .i64)), (6, 2, (.int .i64)), (7, 2, (.int .i64))], 0, true⟩),
  (34, ⟨(.sl dY47), 48, 24, [], 0, false⟩),
  (39, ⟨(.sl dY32), 33, 24, [], 0, false⟩),
  (46, ⟨dY31, 0, 24, [(0, 2, (.int .i64)), (1, 2, (.int .i64)), (2, 2, (.int .i64))], 0, true⟩),
  (48, ⟨dY47, 0, 56, [(0, 3, (.int .i64)), (1, 46, dY31), (4, 30, dY29), (6, 2, (.int .i64))], 0, true⟩),
  (50, ⟨(.sl dY31), 46, 24, [], 0, false⟩),
  (59, ⟨(.sl dY29), 30, 24, [], 0, false⟩),
  (63, ⟨(.int .u64), 0, 8, [], 0, true⟩)]
theorem dtt_ok : TTok Tryd.prog dtt := ttok_of (by kernel_rfl)
theorem dmixed : Tryd.prog.follows .mixedOrders = true := by kernel_rfl
/-! swarf/drill.Pecks -/
noncomputable def dg9.G : List Con := []
def dg9.cut : Cuts := [([0, 1, 0, 1, 1, 1, 1], [0, 1, 6, 7], []), ([1, 1, 1, 1], [0, 6], [])]
def dg9.keep : List Nat := [0, 1, 4, 5, 6, 7, 13, 18, 22, 34]
@[reducible] def dg9.A : List ATy := [.v (.int .i64), .v (.int .i64)]
@[reducible] def dg9.R : List Ty := [(.sl (.int .i64)), (.int .i64)]
noncomputable def dg9.N (N : Nat) (x : DenA dg9.A) : Option (DenR dg9.R) := fnR dg9.G dtt dg9.cut dg9.keep [] (fun _ _ => N) Tryd.f9 dg9.R false (encA dg9.A x)
noncomputable def dg9.L0 (N : Nat) (n : Nat) (x0 : Int) (x1 : Int) (x6 : (List Int)) (x7 : Int) : Option (DenR dg9.R) := fromLoop dg9.G dtt dg9.cut dg9.keep (fun _ _ => N) (codeOf Tryd.f9) (retK dtt Tryd.f9 dg9.R false) [1, 1, 1, 1, 0, 1, 0] [] n ⟨[(0, .val ⟨(.int .i64), x0⟩ false), (1, .val ⟨(.int .i64), x1⟩ false), (6, .val ⟨(.sl (.int .i64)), x6⟩ true), (7, .val ⟨(.int .i64), x7⟩ false)], []⟩
noncomputable def dg9.S0 (N : Nat) (x0 : Int) (x6 : (List Int)) : Option (DenR dg9.R) := fromSeq dg9.G dtt dg9.cut dg9.keep (fun _ _ => N) (codeOf Tryd.f9) (retK dtt Tryd.f9 dg9.R false) [1, 1, 1, 1] [] ⟨[(0, .val ⟨(.int .i64), x0⟩ false), (6, .val ⟨(.sl (.int .i64)), x6⟩ true)], []⟩
theorem dg9.eq (N : Nat) (a0 : Int) (a1 : Int) : dg9.N N (a0, a1, ()) =
  bif (decide (a0 < (1 : Int))) then
    some ([], (1 : Int))
  else
  bif (decide (a1 < (1 : Int))) then
    some ([], (1 : Int))
  else
  bif (a1 == 0) then
    none
  else
  bif (decide ((IntKind.i64.wrap (Int.tdiv (IntKind.i64.wrap (a0 - (1 : Int))) a1)) ≥ (1000 : Int))) then
    some ([], (3 : Int))
  else
  dg9.L0 N N a0 a1 [] a1 := by kernel_rfl
theorem dg9.L0_eq (N : Nat)  (n : Nat) (x0 : Int) (x1 : Int) (x6 : (List Int)) (x7 : Int) : dg9.L0 N  (n + 1) x0 x1 x6 x7 =
  bif (decide (x7 < x0)) then
    bif (decide (List.length x6 + List.length ([x7] : (List Int)) ≤ most)) then
      bif (decide (x7 > (IntKind.i64.wrap (x0 - x1)))) then
        dg9.S0 N x0 (x6 ++ ([x7] : (List Int)))
      else
      dg9.L0 N n x0 x1 (x6 ++ ([x7] : (List Int))) (IntKind.i64.wrap (x7 + x1))
    else
    none
  else
  dg9.S0 N x0 x6 := by kernel_rfl
theorem dg9.L0_zero (N : Nat) (x0 : Int) (x1 : Int) (x6 : (List Int)) (x7 : Int) : dg9.L0 N  0 x0 x1 x6 x7 = none := by kernel_rfl
theorem dg9.S0_eqN (N : Nat)  (x0 : Int) (x6 : (List Int)) : dg9.S0 (N + 1)  x0 x6 =
  bif (decide (List.length x6 + List.length ([x0] : (List Int)) ≤ most)) then
    some ((x6 ++ ([x0] : (List Int))), (0 : Int))
  else
  none := by kernel_rfl
theorem dg9.S0_eq  (x0 : Int) (x6 : (List Int)) : dg9.S0 BIG  x0 x6 =
  bif (decide (List.length x6 + List.length ([x0] : (List Int)) ≤ most)) then
    some ((x6 ++ ([x0] : (List Int))), (0 : Int))
  else
  none := dg9.S0_eqN 18446744073709551615  x0 x6
noncomputable def dg9 (x : DenA dg9.A) : Option (DenR dg9.R) := dg9.N BIG x
noncomputable def dcon9 : Con := ⟨9, dg9.A, dg9.R, false, dg9, none⟩
theorem dsound9 : SoundC Tryd.prog Jd dcon9 :=
  sound_of (Γ := dg9.G) (tt := dtt) (cut := dg9.cut) (keep := dg9.keep) (boxes := []) dcon9 Tryd.f9 (fu := fun _ _ _ => BIG) dtt_ok Jd_keeps (noneS) dmixed (by kernel_rfl) (by kernel_rfl) fun x r h => Eq.trans (b := Con.fn dcon9 x) (by kernel_rfl) h
/-! swarf/swarfref27.Standard -/
noncomputable def dg24.G : List Con := []
def dg24.cut : Cuts := []
def dg24.keep : List Nat := [0, 1, 4]
@[reducible] def dg24.A : List ATy := [.v (.int .i64), .v (.int .i64)]
@[reducible] def dg24.R : List Ty := [dY32]
noncomputable def dg24.N (N : Nat) (x : DenA dg24.A) : Option (DenR dg24.R) := fnR dg24.G dtt dg24.cut dg24.keep [4] (fun _ _ => N) Tryd.f24 dg24.R false (encA dg24.A x)
theorem dg24.eq (N : Nat) (a0 : Int) (a1 : Int) : dg24.N N (a0, a1, ()) =
  some (a0, (1 : Int), a1, (20000 : Int), (IntKind.i64.wrap (a1 + (7000 : Int))), (1500 : Int), (20000 : Int), (5000 : Int), ()) := by kernel_rfl
noncomputable def dg24 (x : DenA dg24.A) : Option (DenR dg24.R) := dg24.N BIG x
noncomputable def dcon24 : Con := ⟨24, dg24.A, dg24.R, false, dg24, none⟩
theorem dsound24 : SoundC Tryd.prog Jd dcon24 :=
  sound_of (Γ := dg24.G) (tt := dtt) (cut := dg24.cut) (keep := dg24.keep) (boxes := [4]) dcon24 Tryd.f24 (fu := fun _ _ _ => BIG) dtt_ok Jd_keeps (noneS) dmixed (by kernel_rfl) (by kernel_rfl) fun x r h => Eq.trans (b := Con.fn dcon24 x) (by kernel_rfl) h
/-! swarf/tool.length -/
noncomputable def dg39.G : List Con := []
def dg39.cut : Cuts := []
def dg39.keep : List Nat := [0, 2]
@[reducible] def dg39.A : List ATy := [.v (.int .i64)]
@[reducible] def dg39.R : List Ty := [.bool]
noncomputable def dg39.N (N : Nat) (x : DenA dg39.A) : Option (DenR dg39.R) := fnR dg39.G dtt dg39.cut dg39.keep [] (fun _ _ => N) Tryd.f39 dg39.R false (encA dg39.A x)
theorem dg39.eq (N : Nat) (a0 : Int) : dg39.N N (a0, ()) =
  bif (decide (a0 ≥ (1 : Int))) then
    some (decide (a0 ≤ (10000000 : Int)))
  else
  some false := by kernel_rfl
noncomputable def dg39 (x : DenA dg39.A) : Option (DenR dg39.R) := dg39.N BIG x
noncomputable def dcon39 : Con := ⟨39, dg39.A, dg39.R, false, dg39, none⟩
theorem dsound39 : SoundC Tryd.prog Jd dcon39 :=
  sound_of (Γ := dg39.G) (tt := dtt) (cut := dg39.cut) (keep := dg39.keep) (boxes := []) dcon39 Tryd.f39 (fu := fun _ _ _ => BIG) dtt_ok Jd_keeps (noneS) dmixed (by kernel_rfl) (by kernel_rfl) fun x r h => Eq.trans (b := Con.fn dcon39 x) (by kernel_rfl) h
/-! swarf/tool.Valid -/
noncomputable def dg25.G : List Con := [dcon38, dcon39]
def dg25.cut : Cuts := [([0, 1, 0, 1, 1], [1, 31, 32, 33], [1]), ([1, 1], [1], [1])]
def dg25.keep : List Nat := [1, 2, 4, 18, 31, 32, 33, 34, 39, 52]
@[reducible] def dg25.A : List ATy := [.v dY32]
@[reducible] def dg25.R : List Ty := [(.int .i64)]
noncomputable def dg25.N (N : Nat) (x : DenA dg25.A) : Option (DenR dg25.R) := fnR dg25.G dtt dg25.cut dg25.keep [1] (fun _ _ => N) Tryd.f25 dg25.R false (encA dg25.A x)
noncomputable def dg25.L0 (N : Nat) (n : Nat) (x31 : (List Int)) (x32 : Int) (x33 : Int) (b1 : (Ty.den dY32)) : Option (DenR dg25.R) := fromLoop dg25.G dtt dg25.cut dg25.keep (fun _ _ => N) (codeOf Tryd.f25) (retK dtt Tryd.f25 dg25.R false) [1, 1, 0, 1, 0] [] n ⟨[(1, .ref 1 0), (31, .val ⟨(.sl (.int .i64)), x31⟩ true), (32, .val ⟨(.int .i64), x32⟩ false), (33, .val ⟨(.int .i64), x33⟩ false)], [(1, ⟨dY32, b1, []⟩)]⟩
noncomputable def dg25.S0 (N : Nat) (b1 : (Ty.den dY32)) : Option (DenR dg25.R) := fromSeq dg25.G dtt dg25.cut dg25.keep (fun _ _ => N) (codeOf Tryd.f25) (retK dtt Tryd.f25 dg25.R false) [1, 1] [] ⟨[(1, .ref 1 0)], [(1, ⟨dY32, b1, []⟩)]⟩
theorem dg25.eq (N : Nat) (a0 : (Ty.den dY32)) : dg25.N N (a0, ()) =
  bif (decide (a0.1 < (1 : Int))) then
    some (1 : Int)
  else
  bif (decide (a0.1 > (9999 : Int))) then
    some (1 : Int)
  else
  Option.bind (dg38 (a0.2.1, ())) fun y1 =>
  bif (ByteArray.toList y1 == ByteArray.toList (⟨#[]⟩ : ByteArray)) then
    some (1 : Int)
  else
  dg25.L0 N N [a0.2.2.1, a0.2.2.2.1, a0.2.2.2.2.1, a0.2.2.2.2.2.1, a0.2.2.2.2.2.2.1, a0.2.2.2.2.2.2.2.1] ((List.length [a0.2.2.1, a0.2.2.2.1, a0.2.2.2.2.1, a0.2.2.2.2.2.1, a0.2.2.2.2.2.2.1, a0.2.2.2.2.2.2.2.1] : Nat) : Int) (0 : Int) a0 := by kernel_rfl
theorem dg25.L0_eq (N : Nat)  (n : Nat) (x31 : (List Int)) (x32 : Int) (x33 : Int) (b1 : (Ty.den dY32)) : dg25.L0 N  (n + 1) x31 x32 x33 b1 =
  bif (decide (x33 < x32)) then
    Option.bind (idx x31 x33) fun r2 =>
    Option.bind (dg39 (r2, ())) fun y3 =>
    bif (!y3) then
      some (1 : Int)
    else
    dg25.L0 N n x31 x32 (IntKind.i64.wrap (x33 + (1 : Int))) b1
  else
  dg25.S0 N b1 := by kernel_rfl
theorem dg25.L0_zero (N : Nat) (x31 : (List Int)) (x32 : Int) (x33 : Int) (b1 : (Ty.den dY32)) : dg25.L0 N  0 x31 x32 x33 b1 = none := by kernel_rfl
theorem dg25.S0_eqN (N : Nat)  (b1 : (Ty.den dY32)) : dg25.S0 (N + 1)  b1 =
  bif (decide (b1.2.2.2.2.1 < b1.2.2.1)) then
    some (1 : Int)
  else
  bif (decide (b1.2.2.2.2.2.1 > b1.2.2.2.1)) then
    some (1 : Int)
  else
  some (0 : Int) := by kernel_rfl
theorem dg25.S0_eq  (b1 : (Ty.den dY32)) : dg25.S0 BIG  b1 =
  bif (decide (b1.2.2.2.2.1 < b1.2.2.1)) then
    some (1 : Int)
  else
  bif (decide (b1.2.2.2.2.2.1 > b1.2.2.2.1)) then
    some (1 : Int)
  else
  some (0 : Int) := dg25.S0_eqN 18446744073709551615  b1
noncomputable def dg25 (x : DenA dg25.A) : Option (DenR dg25.R) := dg25.N BIG x
noncomputable def dcon25 : Con := ⟨25, dg25.A, dg25.R, false, dg25, none⟩
theorem dsound25 : SoundC Tryd.prog Jd dcon25 :=
  sound_of (Γ := dg25.G) (tt := dtt) (cut := dg25.cut) (keep := dg25.keep) (boxes := [1]) dcon25 Tryd.f25 (fu := fun _ _ _ => BIG) dtt_ok Jd_keeps ((consS dsound38 (consS dsound39 noneS))) dmixed (by kernel_rfl) (by kernel_rfl) fun x r h => Eq.trans (b := Con.fn dcon25 x) (by kernel_rfl) h
/-! swarf/drill.mills -/
noncomputable def dg26.G : List Con := []
def dg26.cut : Cuts := []
def dg26.keep : List Nat := [1, 2, 4]
@[reducible] def dg26.A : List ATy := [.v dY32, .v (.int .i64)]
@[reducible] def dg26.R : List Ty := [.bool]
noncomputable def dg26.N (N : Nat) (x : DenA dg26.A) : Option (DenR dg26.R) := fnR dg26.G dtt dg26.cut dg26.keep [2] (fun _ _ => N) Tryd.f26 dg26.R false (encA dg26.A x)
theorem dg26.eq (N : Nat) (a0 : (Ty.den dY32)) (a1 : Int) : dg26.N N (a0, a1, ()) =
  bif (a0.2.1 == (1 : Int)) then
    bif (decide (a0.2.2.1 < a1)) then
      some (decide ((IntKind.i64.wrap (a1 - a0.2.2.1)) ≤ a0.2.2.1))
    else
    some false
  else
  some false := by kernel_rfl
noncomputable def dg26 (x : DenA dg26.A) : Option (DenR dg26.R) := dg26.N BIG x
noncomputable def dcon26 : Con := ⟨26, dg26.A, dg26.R, false, dg26, none⟩
theorem dsound26 : SoundC Tryd.prog Jd dcon26 :=
  sound_of (Γ := dg26.G) (tt := dtt) (cut := dg26.cut) (keep := dg26.keep) (boxes := [2]) dcon26 Tryd.f26 (fu := fun _ _ _ => BIG) dtt_ok Jd_keeps (noneS) dmixed (by kernel_rfl) (by kernel_rfl) fun x r h => Eq.trans (b := Con.fn dcon26 x) (by kernel_rfl) h
/-! swarf/drill.inside -/
noncomputable def dg27.G : List Con := []
def dg27.cut : Cuts := []
def dg27.keep : List Nat := [0, 2]
@[reducible] def dg27.A : List ATy := [.v (.int .i64)]
@[reducible] def dg27.R : List Ty := [.bool]
noncomputable def dg27.N (N : Nat) (x : DenA dg27.A) : Option (DenR dg27.R) := fnR dg27.G dtt dg27.cut dg27.keep [] (fun _ _ => N) Tryd.f27 dg27.R false (encA dg27.A x)
theorem dg27.eq (N : Nat) (a0 : Int) : dg27.N N (a0, ()) =
  bif (decide (a0 ≥ (-10000000 : Int))) then
    some (decide (a0 ≤ (10000000 : Int)))
  else
  some false := by kernel_rfl
noncomputable def dg27 (x : DenA dg27.A) : Option (DenR dg27.R) := dg27.N BIG x
noncomputable def dcon27 : Con := ⟨27, dg27.A, dg27.R, false, dg27, none⟩
theorem dsound27 : SoundC Tryd.prog Jd dcon27 :=
  sound_of (Γ := dg27.G) (tt := dtt) (cut := dg27.cut) (keep := dg27.keep) (boxes := []) dcon27 Tryd.f27 (fu := fun _ _ _ => BIG) dtt_ok Jd_keeps (noneS) dmixed (by kernel_rfl) (by kernel_rfl) fun x r h => Eq.trans (b := Con.fn dcon27 x) (by kernel_rfl) h
/-! swarf/drill.Bore$1 -/
noncomputable def dg28.G : List Con := []
def dg28.cut : Cuts := []
def dg28.keep : List Nat := [1, 2, 4]
@[reducible] def dg28.A : List ATy := [.v dY29, .v (.int .i64)]
@[reducible] def dg28.R : List Ty := [dY31]
noncomputable def dg28.N (N : Nat) (x : DenA dg28.A) : Option (DenR dg28.R) := fnR dg28.G dtt dg28.cut dg28.keep [2, 4] (fun _ _ => N) Tryd.f28 dg28.R false (encA dg28.A x)
theorem dg28.eq (N : Nat) (a0 : (Ty.den dY29)) (a1 : Int) : dg28.N N (a0, a1, ()) =
  some (a0.1, a0.2.1, a1, ()) := by kernel_rfl
noncomputable def dg28 (x : DenA dg28.A) : Option (DenR dg28.R) := dg28.N BIG x
noncomputable def dcon28 : Con := ⟨28, dg28.A, dg28.R, false, dg28, none⟩
theorem dsound28 : SoundC Tryd.prog Jd dcon28 :=
  sound_of (Γ := dg28.G) (tt := dtt) (cut := dg28.cut) (keep := dg28.keep) (boxes := [2, 4]) dcon28 Tryd.f28 (fu := fun _ _ _ => BIG) dtt_ok Jd_keeps (noneS) dmixed (by kernel_rfl) (by kernel_rfl) fun x r h => Eq.trans (b := Con.fn dcon28 x) (by kernel_rfl) h
/-! swarf/drill.Bore -/
noncomputable def dg12.G : List Con := [dcon25, dcon26, dcon27, dcon28]
def dg12.cut : Cuts := [([0, 1, 0, 1, 1, 1, 1, 1, 1, 1, 1, 1], [2, 3, 5, 9, 13, 14, 15, 16, 17], [5, 9]), ([1, 1, 1, 1, 1, 1, 1, 1, 1], [2, 3, 5, 9, 14, 15, 16], [5, 9])]
def dg12.keep : List Nat := [1, 2, 3, 5, 9, 10, 11, 12, 13, 14, 15, 16, 17, 18, 19, 40, 51, 105, 117, 159]
@[reducible] def dg12.A : List ATy := [.v dY29, .v (.int .i64), .v (.int .i64), .v (.int .i64), .v dY32]
@[reducible] def dg12.R : List Ty := [(.sl dY47), (.int .i64)]
noncomputable def dg12.N (N : Nat) (x : DenA dg12.A) : Option (DenR dg12.R) := fnR dg12.G dtt dg12.cut dg12.keep [5, 9] (fun _ _ => N) Tryd.f12 dg12.R false (encA dg12.A x)
noncomputable def dg12.L0 (N : Nat) (n : Nat) (x2 : Int) (x3 : Int) (x13 : Int) (x14 : (List (Ty.den dY29))) (x16 : (List (Ty.den dY47))) (x17 : Int) (b5 : (Ty.den dY29)) (b9 : (Ty.den dY32)) : Option (DenR dg12.R) := fromLoop dg12.G dtt dg12.cut dg12.keep (fun _ _ => N) (codeOf Tryd.f12) (retK dtt Tryd.f12 dg12.R false) [1, 1, 1, 1, 1, 1, 1, 1, 1, 0, 1, 0] [] n ⟨[(2, .val ⟨(.int .i64), x2⟩ false), (3, .val ⟨(.int .i64), x3⟩ false), (5, .ref 5 0), (9, .ref 9 0), (13, .val ⟨(.int .i64), x13⟩ false), (14, .val ⟨(.sl dY29), x14⟩ true), (15, .clo 28 []), (16, .val ⟨(.sl dY47), x16⟩ true), (17, .val ⟨(.int .i64), x17⟩ false)], [(5, ⟨dY29, b5, []⟩), (9, ⟨dY32, b9, []⟩)]⟩
noncomputable def dg12.S0 (N : Nat) (x2 : Int) (x3 : Int) (x14 : (List (Ty.den dY29))) (x16 : (List (Ty.den dY47))) (b5 : (Ty.den dY29)) (b9 : (Ty.den dY32)) : Option (DenR dg12.R) := fromSeq dg12.G dtt dg12.cut dg12.keep (fun _ _ => N) (codeOf Tryd.f12) (retK dtt Tryd.f12 dg12.R false) [1, 1, 1, 1, 1, 1, 1, 1, 1] [] ⟨[(2, .val ⟨(.int .i64), x2⟩ false), (3, .val ⟨(.int .i64), x3⟩ false), (5, .ref 5 0), (9, .ref 9 0), (14, .val ⟨(.sl dY29), x14⟩ true), (15, .clo 28 []), (16, .val ⟨(.sl dY47), x16⟩ true)], [(5, ⟨dY29, b5, []⟩), (9, ⟨dY32, b9, []⟩)]⟩
theorem dg12.eq (N : Nat) (a0 : (Ty.den dY29)) (a1 : Int) (a2 : Int) (a3 : Int) (a4 : (Ty.den dY32)) : dg12.N N (a0, a1, a2, a3, a4, ()) =
  Option.bind (dg25 (a4, ())) fun y1 =>
  bif (y1 != (0 : Int)) then
    some ([], (1 : Int))
  else
  bif (a4.2.1 != (1 : Int)) then
    some ([], (1 : Int))
  else
  bif (decide (a2 < (0 : Int))) then
    some ([], (1 : Int))
  else
  bif (decide (a1 < (1 : Int))) then
    some ([], (1 : Int))
  else
  bif (decide (a3 < (1 : Int))) then
    some ([], (1 : Int))
  else
  bif (decide (a4.2.2.2.1 < a3)) then
    some ([], (16 : Int))
  else
  Option.bind (dg26 (a4, a1, ())) fun y2 =>
  bif (!y2) then
    some ([], (16 : Int))
  else
  Option.bind (dg27 (a0.1, ())) fun y3 =>
  bif (!y3) then
    some ([], (11 : Int))
  else
  Option.bind (dg27 (a0.2.1, ())) fun y4 =>
  bif (!y4) then
    some ([], (11 : Int))
  else
  Option.bind (dg27 (a2, ())) fun y5 =>
  bif (!y5) then
    some ([], (11 : Int))
  else
  Option.bind (dg27 (a3, ())) fun y6 =>
  bif (!y6) then
    some ([], (11 : Int))
  else
  Option.bind (dg27 ((IntKind.i64.wrap (a0.1 + (IntKind.i64.wrap (a1 - a4.2.2.1)))), ())) fun y7 =>
  bif (!y7) then
    some ([], (11 : Int))
  else
  Option.bind (dg27 ((IntKind.i64.wrap (a0.1 - (IntKind.i64.wrap (a1 - a4.2.2.1)))), ())) fun y8 =>
  bif (!y8) then
    some ([], (11 : Int))
  else
  Option.bind (dg27 ((IntKind.i64.wrap (a0.2.1 + (IntKind.i64.wrap (a1 - a4.2.2.1)))), ())) fun y9 =>
  bif (!y9) then
    some ([], (11 : Int))
  else
  Option.bind (dg27 ((IntKind.i64.wrap (a0.2.1 - (IntKind.i64.wrap (a1 - a4.2.2.1)))), ())) fun y10 =>
  bif (!y10) then
    some ([], (11 : Int))
  else
  bif (a4.2.2.2.2.2.1 == 0) then
    none
  else
  let v11 : Int := (IntKind.i64.wrap ((IntKind.i64.wrap ((4 : Int) * (IntKind.i64.wrap (Int.tdiv (IntKind.i64.wrap ((IntKind.i64.wrap (a3 + a4.2.2.2.2.2.1)) - (1 : Int))) a4.2.2.2.2.2.1)))) + (4 : Int)))
  bif (decide (v11 > (20000 : Int))) then
    some ([], (3 : Int))
  else
  Option.bind (idx [((IntKind.i64.wrap (a0.1 + (IntKind.i64.wrap (a1 - a4.2.2.1)))), a0.2.1, ()), (a0.1, (IntKind.i64.wrap (a0.2.1 + (IntKind.i64.wrap (a1 - a4.2.2.1)))), ()), ((IntKind.i64.wrap (a0.1 - (IntKind.i64.wrap (a1 - a4.2.2.1)))), a0.2.1, ()), (a0.1, (IntKind.i64.wrap (a0.2.1 - (IntKind.i64.wrap (a1 - a4.2.2.1)))), ())] (0 : Int)) fun r12 =>
  Option.bind (dg28 (r12, (0 : Int), ())) fun y13 =>
  dg12.L0 N N a2 a3 (IntKind.i64.wrap (Int.tdiv (IntKind.i64.wrap ((IntKind.i64.wrap (a3 + a4.2.2.2.2.2.1)) - (1 : Int))) a4.2.2.2.2.2.1)) [((IntKind.i64.wrap (a0.1 + (IntKind.i64.wrap (a1 - a4.2.2.1)))), a0.2.1, ()), (a0.1, (IntKind.i64.wrap (a0.2.1 + (IntKind.i64.wrap (a1 - a4.2.2.1)))), ()), ((IntKind.i64.wrap (a0.1 - (IntKind.i64.wrap (a1 - a4.2.2.1)))), a0.2.1, ()), (a0.1, (IntKind.i64.wrap (a0.2.1 - (IntKind.i64.wrap (a1 - a4.2.2.1)))), ())] [((2 : Int), y13, ((0 : Int), (0 : Int), ()), a4.2.2.2.2.2.2.2.1, ())] (1 : Int) a0 a4 := by kernel_rfl
theorem dg12.L0_eq (N : Nat)  (n : Nat) (x2 : Int) (x3 : Int) (x13 : Int) (x14 : (List (Ty.den dY29))) (x16 : (List (Ty.den dY47))) (x17 : Int) (b5 : (Ty.den dY29)) (b9 : (Ty.den dY32)) : dg12.L0 N  (n + 1) x2 x3 x13 x14 x16 x17 b5 b9 =
  bif (decide (x17 ≤ (IntKind.i64.wrap ((4 : Int) * x13)))) then
    bif ((IntKind.i64.wrap ((4 : Int) * x13)) == 0) then
      none
    else
    let v14 : Int := (IntKind.i64.wrap (Int.tdiv (IntKind.i64.wrap ((IntKind.i64.wrap ((IntKind.i64.wrap (x17 * x3)) + (IntKind.i64.wrap ((4 : Int) * x13)))) - (1 : Int))) (IntKind.i64.wrap ((4 : Int) * x13))))
    Option.bind (idx x14 (Int.tmod x17 (4 : Int))) fun r15 =>
    Option.bind (dg28 (r15, (IntKind.i64.wrap (0 - v14)), ())) fun y16 =>
    bif (decide (List.length x16 + List.length ([((4 : Int), y16, b5, b9.2.2.2.2.2.2.1, ())] : (List (Ty.den dY47))) ≤ most)) then
      dg12.L0 N n x2 x3 x13 x14 (x16 ++ ([((4 : Int), y16, b5, b9.2.2.2.2.2.2.1, ())] : (List (Ty.den dY47)))) (IntKind.i64.wrap (x17 + (1 : Int))) b5 b9
    else
    none
  else
  dg12.S0 N x2 x3 x14 x16 b5 b9 := by kernel_rfl
theorem dg12.L0_zero (N : Nat) (x2 : Int) (x3 : Int) (x13 : Int) (x14 : (List (Ty.den dY29))) (x16 : (List (Ty.den dY47))) (x17 : Int) (b5 : (Ty.den dY29)) (b9 : (Ty.den dY32)) : dg12.L0 N  0 x2 x3 x13 x14 x16 x17 b5 b9 = none := by kernel_rfl
theorem dg12.S0_eqN (N : Nat)  (x2 : Int) (x3 : Int) (x14 : (List (Ty.den dY29))) (x16 : (List (Ty.den dY47))) (b5 : (Ty.den dY29)) (b9 : (Ty.den dY32)) : dg12.S0 (N + 1)  x2 x3 x14 x16 b5 b9 =
  Option.bind (idx x14 (0 : Int)) fun r17 =>
  Option.bind (dg28 (r17, (IntKind.i64.wrap (0 - x3)), ())) fun y18 =>
  Option.bind (dg28 (b5, (IntKind.i64.wrap (0 - x3)), ())) fun y19 =>
  Option.bind (dg28 (b5, x2, ())) fun y20 =>
  bif (decide (List.length x16 + List.length ([((4 : Int), y18, b5, b9.2.2.2.2.2.2.1, ()), ((2 : Int), y19, ((0 : Int), (0 : Int), ()), b9.2.2.2.2.2.2.1, ()), ((1 : Int), y20, ((0 : Int), (0 : Int), ()), (0 : Int), ())] : (List (Ty.den dY47))) ≤ most)) then
    some ((x16 ++ ([((4 : Int), y18, b5, b9.2.2.2.2.2.2.1, ()), ((2 : Int), y19, ((0 : Int), (0 : Int), ()), b9.2.2.2.2.2.2.1, ()), ((1 : Int), y20, ((0 : Int), (0 : Int), ()), (0 : Int), ())] : (List (Ty.den dY47)))), (0 : Int))
  else
  none := by kernel_rfl
theorem dg12.S0_eq  (x2 : Int) (x3 : Int) (x14 : (List (Ty.den dY29))) (x16 : (List (Ty.den dY47))) (b5 : (Ty.den dY29)) (b9 : (Ty.den dY32)) : dg12.S0 BIG  x2 x3 x14 x16 b5 b9 =
  Option.bind (idx x14 (0 : Int)) fun r17 =>
  Option.bind (dg28 (r17, (IntKind.i64.wrap (0 - x3)), ())) fun y18 =>
  Option.bind (dg28 (b5, (IntKind.i64.wrap (0 - x3)), ())) fun y19 =>
  Option.bind (dg28 (b5, x2, ())) fun y20 =>
  bif (decide (List.length x16 + List.length ([((4 : Int), y18, b5, b9.2.2.2.2.2.2.1, ()), ((2 : Int), y19, ((0 : Int), (0 : Int), ()), b9.2.2.2.2.2.2.1, ()), ((1 : Int), y20, ((0 : Int), (0 : Int), ()), (0 : Int), ())] : (List (Ty.den dY47))) ≤ most)) then
    some ((x16 ++ ([((4 : Int), y18, b5, b9.2.2.2.2.2.2.1, ()), ((2 : Int), y19, ((0 : Int), (0 : Int), ()), b9.2.2.2.2.2.2.1, ()), ((1 : Int), y20, ((0 : Int), (0 : Int), ()), (0 : Int), ())] : (List (Ty.den dY47)))), (0 : Int))
  else
  none := dg12.S0_eqN 18446744073709551615  x2 x3 x14 x16 b5 b9
noncomputable def dg12 (x : DenA dg12.A) : Option (DenR dg12.R) := dg12.N BIG x
noncomputable def dcon12 : Con := ⟨12, dg12.A, dg12.R, false, dg12, none⟩
theorem dsound12 : SoundC Tryd.prog Jd dcon12 :=
  sound_of (Γ := dg12.G) (tt := dtt) (cut := dg12.cut) (keep := dg12.keep) (boxes := [5, 9]) dcon12 Tryd.f12 (fu := fun _ _ _ => BIG) dtt_ok Jd_keeps ((consS dsound25 (consS dsound26 (consS dsound27 (consS dsound28 noneS))))) dmixed (by kernel_rfl) (by kernel_rfl) fun x r h => Eq.trans (b := Con.fn dcon12 x) (by kernel_rfl) h
/-! slices.Equal[[]int64,int64] -/
noncomputable def dg11.G : List Con := []
def dg11.cut : Cuts := [([0, 1, 0, 1, 1], [0, 1, 12, 13], [])]
def dg11.keep : List Nat := [0, 1, 4, 5, 10, 12, 13, 14, 24]
@[reducible] def dg11.A : List ATy := [.v (.sl (.int .i64)), .v (.sl (.int .i64))]
@[reducible] def dg11.R : List Ty := [.bool]
noncomputable def dg11.N (N : Nat) (x : DenA dg11.A) : Option (DenR dg11.R) := fnR dg11.G dtt dg11.cut dg11.keep [] (fun _ _ => N) Tryd.f11 dg11.R false (encA dg11.A x)
noncomputable def dg11.L0 (N : Nat) (n : Nat) (x0 : (List Int)) (x1 : (List Int)) (x12 : Int) (x13 : Int) : Option (DenR dg11.R) := fromLoop dg11.G dtt dg11.cut dg11.keep (fun _ _ => N) (codeOf Tryd.f11) (retK dtt Tryd.f11 dg11.R false) [1, 1, 0, 1, 0] [] n ⟨[(0, .val ⟨(.sl (.int .i64)), x0⟩ false), (1, .val ⟨(.sl (.int .i64)), x1⟩ false), (12, .val ⟨(.int .i64), x12⟩ false), (13, .val ⟨(.int .i64), x13⟩ false)], []⟩
theorem dg11.eq (N : Nat) (a0 : (List Int)) (a1 : (List Int)) : dg11.N N (a0, a1, ()) =
  bif (((List.length a0 : Nat) : Int) != ((List.length a1 : Nat) : Int)) then
    some false
  else
  dg11.L0 N N a0 a1 ((List.length a0 : Nat) : Int) (0 : Int) := by kernel_rfl
theorem dg11.L0_eq (N : Nat)  (n : Nat) (x0 : (List Int)) (x1 : (List Int)) (x12 : Int) (x13 : Int) : dg11.L0 N  (n + 1) x0 x1 x12 x13 =
  bif (decide (x13 < x12)) then
    Option.bind (idx x0 x13) fun r1 =>
    Option.bind (idx x1 x13) fun r2 =>
    bif (r1 != r2) then
      some false
    else
    dg11.L0 N n x0 x1 x12 (IntKind.i64.wrap (x13 + (1 : Int)))
  else
  some true := by kernel_rfl
theorem dg11.L0_zero (N : Nat) (x0 : (List Int)) (x1 : (List Int)) (x12 : Int) (x13 : Int) : dg11.L0 N  0 x0 x1 x12 x13 = none := by kernel_rfl
noncomputable def dg11 (x : DenA dg11.A) : Option (DenR dg11.R) := dg11.N BIG x
noncomputable def dcon11 : Con := ⟨11, dg11.A, dg11.R, false, dg11, none⟩
theorem dsound11 : SoundC Tryd.prog Jd dcon11 :=
  sound_of (Γ := dg11.G) (tt := dtt) (cut := dg11.cut) (keep := dg11.keep) (boxes := []) dcon11 Tryd.f11 (fu := fun _ _ _ => BIG) dtt_ok Jd_keeps (noneS) dmixed (by kernel_rfl) (by kernel_rfl) fun x r h => Eq.trans (b := Con.fn dcon11 x) (by kernel_rfl) h
/-! swarf/swarflaw35.awake -/
noncomputable def dg8.G : List Con := [dcon9, dcon24, dcon12, dcon11]
def dg8.cut : Cuts := [([0, 1, 0, 1, 1, 1, 1, 1], [4, 38, 39, 40], []), ([1, 1, 1, 1, 1], [4], [])]
def dg8.keep : List Nat := [0, 1, 2, 3, 4, 5, 6, 7, 9, 37, 38, 39, 40, 41, 53]
@[reducible] def dg8.A : List ATy := []
@[reducible] def dg8.R : List Ty := [.bool]
noncomputable def dg8.N (N : Nat) (x : DenA dg8.A) : Option (DenR dg8.R) := fnR dg8.G dtt dg8.cut dg8.keep [3] (fun _ _ => N) Tryd.f8 dg8.R false (encA dg8.A x)
noncomputable def dg8.L0 (N : Nat) (n : Nat) (x4 : (List (Ty.den dY47))) (x38 : (List Int)) (x39 : Int) (x40 : Int) : Option (DenR dg8.R) := fromLoop dg8.G dtt dg8.cut dg8.keep (fun _ _ => N) (codeOf Tryd.f8) (retK dtt Tryd.f8 dg8.R false) [1, 1, 1, 1, 1, 0, 1, 0] [] n ⟨[(4, .val ⟨(.sl dY47), x4⟩ false), (38, .val ⟨(.sl (.int .i64)), x38⟩ true), (39, .val ⟨(.int .i64), x39⟩ false), (40, .val ⟨(.int .i64), x40⟩ false)], []⟩
noncomputable def dg8.S0 (N : Nat) (x4 : (List (Ty.den dY47))) : Option (DenR dg8.R) := fromSeq dg8.G dtt dg8.cut dg8.keep (fun _ _ => N) (codeOf Tryd.f8) (retK dtt Tryd.f8 dg8.R false) [1, 1, 1, 1, 1] [] ⟨[(4, .val ⟨(.sl dY47), x4⟩ false)], []⟩
theorem dg8.eq (N : Nat)  : dg8.N N () =
  Option.bind (dg9 ((7000 : Int), (3000 : Int), ())) fun y1 =>
  Option.bind (dg24 ((1 : Int), (3000 : Int), ())) fun y2 =>
  Option.bind (dg12 (((0 : Int), (0 : Int), ()), (5000 : Int), (0 : Int), (3000 : Int), y2, ())) fun y3 =>
  bif (y1.2 != (0 : Int)) then
    some false
  else
  bif (y3.2 != (0 : Int)) then
    some false
  else
  Option.bind (dg11 (y1.1, [(3000 : Int), (6000 : Int), (7000 : Int)], ())) fun y4 =>
  bif (!y4) then
    some false
  else
  bif (((List.length y3.1 : Nat) : Int) != (12 : Int)) then
    some false
  else
  dg8.L0 N N y3.1 [(-375 : Int), (-750 : Int), (-1125 : Int), (-1500 : Int), (-1875 : Int), (-2250 : Int), (-2625 : Int), (-3000 : Int)] ((List.length [(-375 : Int), (-750 : Int), (-1125 : Int), (-1500 : Int), (-1875 : Int), (-2250 : Int), (-2625 : Int), (-3000 : Int)] : Nat) : Int) (0 : Int) := by kernel_rfl
theorem dg8.L0_eq (N : Nat)  (n : Nat) (x4 : (List (Ty.den dY47))) (x38 : (List Int)) (x39 : Int) (x40 : Int) : dg8.L0 N  (n + 1) x4 x38 x39 x40 =
  bif (decide (x40 < x39)) then
    Option.bind (idx x38 x40) fun r5 =>
    Option.bind (idx x4 (IntKind.i64.wrap ((1 : Int) + x40))) fun r6 =>
    bif (r6.2.1.2.2.1 != r5) then
      some false
    else
    dg8.L0 N n x4 x38 x39 (IntKind.i64.wrap (x40 + (1 : Int)))
  else
  dg8.S0 N x4 := by kernel_rfl
theorem dg8.L0_zero (N : Nat) (x4 : (List (Ty.den dY47))) (x38 : (List Int)) (x39 : Int) (x40 : Int) : dg8.L0 N  0 x4 x38 x39 x40 = none := by kernel_rfl
theorem dg8.S0_eqN (N : Nat)  (x4 : (List (Ty.den dY47))) : dg8.S0 (N + 1)  x4 =
  Option.bind (dg24 ((1 : Int), (2000 : Int), ())) fun y7 =>
  Option.bind (dg12 (((0 : Int), (0 : Int), ()), (5000 : Int), (0 : Int), (3000 : Int), y7, ())) fun y8 =>
  Option.bind (idx x4 (0 : Int)) fun r9 =>
  bif (eqD dY31 r9.2.1 ((2000 : Int), (0 : Int), (0 : Int), ())) then
    some (y8.2 == (16 : Int))
  else
  some false := by kernel_rfl
theorem dg8.S0_eq  (x4 : (List (Ty.den dY47))) : dg8.S0 BIG  x4 =
  Option.bind (dg24 ((1 : Int), (2000 : Int), ())) fun y7 =>
  Option.bind (dg12 (((0 : Int), (0 : Int), ()), (5000 : Int), (0 : Int), (3000 : Int), y7, ())) fun y8 =>
  Option.bind (idx x4 (0 : Int)) fun r9 =>
  bif (eqD dY31 r9.2.1 ((2000 : Int), (0 : Int), (0 : Int), ())) then
    some (y8.2 == (16 : Int))
  else
  some false := dg8.S0_eqN 18446744073709551615  x4
noncomputable def dg8 (x : DenA dg8.A) : Option (DenR dg8.R) := dg8.N BIG x
noncomputable def dcon8 : Con := ⟨8, dg8.A, dg8.R, false, dg8, none⟩
theorem dsound8 : SoundC Tryd.prog Jd dcon8 :=
  sound_of (Γ := dg8.G) (tt := dtt) (cut := dg8.cut) (keep := dg8.keep) (boxes := [3]) dcon8 Tryd.f8 (fu := fun _ _ _ => BIG) dtt_ok Jd_keeps ((consS dsound9 (consS dsound24 (consS dsound12 (consS dsound11 noneS))))) dmixed (by kernel_rfl) (by kernel_rfl) fun x r h => Eq.trans (b := Con.fn dcon8 x) (by kernel_rfl) h
/-! swarf/swarfref35.Pecks -/
noncomputable def dg10.G : List Con := []
def dg10.cut : Cuts := [([0, 1, 0, 1, 1, 1, 1], [0, 1, 6, 7], []), ([1, 1, 1, 1], [0, 6], [])]
def dg10.keep : List Nat := [0, 1, 4, 5, 6, 7, 13, 18, 26]
@[reducible] def dg10.A : List ATy := [.v (.int .i64), .v (.int .i64)]
@[reducible] def dg10.R : List Ty := [(.sl (.int .i64)), (.int .i64)]
noncomputable def dg10.N (N : Nat) (x : DenA dg10.A) : Option (DenR dg10.R) := fnR dg10.G dtt dg10.cut dg10.keep [] (fun _ _ => N) Tryd.f10 dg10.R false (encA dg10.A x)
noncomputable def dg10.L0 (N : Nat) (n : Nat) (x0 : Int) (x1 : Int) (x6 : (List Int)) (x7 : Int) : Option (DenR dg10.R) := fromLoop dg10.G dtt dg10.cut dg10.keep (fun _ _ => N) (codeOf Tryd.f10) (retK dtt Tryd.f10 dg10.R false) [1, 1, 1, 1, 0, 1, 0] [] n ⟨[(0, .val ⟨(.int .i64), x0⟩ false), (1, .val ⟨(.int .i64), x1⟩ false), (6, .val ⟨(.sl (.int .i64)), x6⟩ true), (7, .val ⟨(.int .i64), x7⟩ false)], []⟩
noncomputable def dg10.S0 (N : Nat) (x0 : Int) (x6 : (List Int)) : Option (DenR dg10.R) := fromSeq dg10.G dtt dg10.cut dg10.keep (fun _ _ => N) (codeOf Tryd.f10) (retK dtt Tryd.f10 dg10.R false) [1, 1, 1, 1] [] ⟨[(0, .val ⟨(.int .i64), x0⟩ false), (6, .val ⟨(.sl (.int .i64)), x6⟩ true)], []⟩
theorem dg10.eq (N : Nat) (a0 : Int) (a1 : Int) : dg10.N N (a0, a1, ()) =
  bif (decide (a0 ≤ (0 : Int))) then
    some ([], (1 : Int))
  else
  bif (decide (a1 ≤ (0 : Int))) then
    some ([], (1 : Int))
  else
  bif (a1 == 0) then
    none
  else
  bif (decide ((IntKind.i64.wrap (Int.tdiv (IntKind.i64.wrap (a0 - (1 : Int))) a1)) ≥ (1000 : Int))) then
    some ([], (3 : Int))
  else
  dg10.L0 N N a0 a1 [] a1 := by kernel_rfl
theorem dg10.L0_eq (N : Nat)  (n : Nat) (x0 : Int) (x1 : Int) (x6 : (List Int)) (x7 : Int) : dg10.L0 N  (n + 1) x0 x1 x6 x7 =
  bif (decide (x7 < x0)) then
    bif (decide (x7 > (0 : Int))) then
      bif (decide (List.length x6 + List.length ([x7] : (List Int)) ≤ most)) then
        dg10.L0 N n x0 x1 (x6 ++ ([x7] : (List Int))) (IntKind.i64.wrap (x7 + x1))
      else
      none
    else
    dg10.S0 N x0 x6
  else
  dg10.S0 N x0 x6 := by kernel_rfl
theorem dg10.L0_zero (N : Nat) (x0 : Int) (x1 : Int) (x6 : (List Int)) (x7 : Int) : dg10.L0 N  0 x0 x1 x6 x7 = none := by kernel_rfl
theorem dg10.S0_eqN (N : Nat)  (x0 : Int) (x6 : (List Int)) : dg10.S0 (N + 1)  x0 x6 =
  bif (decide (List.length x6 + List.length ([x0] : (List Int)) ≤ most)) then
    some ((x6 ++ ([x0] : (List Int))), (0 : Int))
  else
  none := by kernel_rfl
theorem dg10.S0_eq  (x0 : Int) (x6 : (List Int)) : dg10.S0 BIG  x0 x6 =
  bif (decide (List.length x6 + List.length ([x0] : (List Int)) ≤ most)) then
    some ((x6 ++ ([x0] : (List Int))), (0 : Int))
  else
  none := dg10.S0_eqN 18446744073709551615  x0 x6
noncomputable def dg10 (x : DenA dg10.A) : Option (DenR dg10.R) := dg10.N BIG x
noncomputable def dcon10 : Con := ⟨10, dg10.A, dg10.R, false, dg10, none⟩
theorem dsound10 : SoundC Tryd.prog Jd dcon10 :=
  sound_of (Γ := dg10.G) (tt := dtt) (cut := dg10.cut) (keep := dg10.keep) (boxes := []) dcon10 Tryd.f10 (fu := fun _ _ _ => BIG) dtt_ok Jd_keeps (noneS) dmixed (by kernel_rfl) (by kernel_rfl) fun x r h => Eq.trans (b := Con.fn dcon10 x) (by kernel_rfl) h
/-! swarf/swarflaw35.DrillPecks -/
noncomputable def dg3.G : List Con := [dcon8, dcon9, dcon10, dcon11]
def dg3.cut : Cuts := [([0, 1, 0, 1, 1, 1, 1, 1, 1], [0, 1, 6, 9, 35, 36, 37], []), ([1, 1, 1, 1, 1, 1], [0, 6, 9], [])]
def dg3.keep : List Nat := [0, 1, 4, 5, 6, 7, 8, 9, 11, 13, 34, 35, 36, 37, 38, 50]
@[reducible] def dg3.A : List ATy := [.v (.int .i64), .v (.int .i64)]
@[reducible] def dg3.R : List Ty := [.bool]
noncomputable def dg3.N (N : Nat) (x : DenA dg3.A) : Option (DenR dg3.R) := fnR dg3.G dtt dg3.cut dg3.keep [] (fun _ _ => N) Tryd.f3 dg3.R false (encA dg3.A x)
noncomputable def dg3.L0 (N : Nat) (n : Nat) (x0 : Int) (x1 : Int) (x6 : Int) (x9 : Int) (x35 : (List Int)) (x36 : Int) (x37 : Int) : Option (DenR dg3.R) := fromLoop dg3.G dtt dg3.cut dg3.keep (fun _ _ => N) (codeOf Tryd.f3) (retK dtt Tryd.f3 dg3.R false) [1, 1, 1, 1, 1, 1, 0, 1, 0] [] n ⟨[(0, .val ⟨(.int .i64), x0⟩ false), (1, .val ⟨(.int .i64), x1⟩ false), (6, .val ⟨(.int .i64), x6⟩ false), (9, .val ⟨(.int .i64), x9⟩ false), (35, .val ⟨(.sl (.int .i64)), x35⟩ false), (36, .val ⟨(.int .i64), x36⟩ false), (37, .val ⟨(.int .i64), x37⟩ false)], []⟩
noncomputable def dg3.S0 (N : Nat) (x0 : Int) (x6 : Int) (x9 : Int) : Option (DenR dg3.R) := fromSeq dg3.G dtt dg3.cut dg3.keep (fun _ _ => N) (codeOf Tryd.f3) (retK dtt Tryd.f3 dg3.R false) [1, 1, 1, 1, 1, 1] [] ⟨[(0, .val ⟨(.int .i64), x0⟩ false), (6, .val ⟨(.int .i64), x6⟩ false), (9, .val ⟨(.int .i64), x9⟩ false)], []⟩
theorem dg3.eq (N : Nat) (a0 : Int) (a1 : Int) : dg3.N N (a0, a1, ()) =
  Option.bind (dg8 ()) fun y1 =>
  bif (!y1) then
    some false
  else
  Option.bind (dg9 (a0, a1, ())) fun y2 =>
  Option.bind (dg10 (a0, a1, ())) fun y3 =>
  bif (y2.2 != y3.2) then
    some false
  else
  Option.bind (dg11 (y2.1, y3.1, ())) fun y4 =>
  bif (!y4) then
    some false
  else
  dg3.L0 N N a0 a1 y2.2 (0 : Int) y2.1 ((List.length y2.1 : Nat) : Int) (0 : Int) := by kernel_rfl
theorem dg3.L0_eq (N : Nat)  (n : Nat) (x0 : Int) (x1 : Int) (x6 : Int) (x9 : Int) (x35 : (List Int)) (x36 : Int) (x37 : Int) : dg3.L0 N  (n + 1) x0 x1 x6 x9 x35 x36 x37 =
  bif (decide (x37 < x36)) then
    Option.bind (idx x35 x37) fun r5 =>
    bif (decide (r5 ≤ x9)) then
      some false
    else
    bif (decide ((IntKind.i64.wrap (r5 - x9)) > x1)) then
      some false
    else
    dg3.L0 N n x0 x1 x6 r5 x35 x36 (IntKind.i64.wrap (x37 + (1 : Int)))
  else
  dg3.S0 N x0 x6 x9 := by kernel_rfl
theorem dg3.L0_zero (N : Nat) (x0 : Int) (x1 : Int) (x6 : Int) (x9 : Int) (x35 : (List Int)) (x36 : Int) (x37 : Int) : dg3.L0 N  0 x0 x1 x6 x9 x35 x36 x37 = none := by kernel_rfl
theorem dg3.S0_eqN (N : Nat)  (x0 : Int) (x6 : Int) (x9 : Int) : dg3.S0 (N + 1)  x0 x6 x9 =
  bif (x6 != (0 : Int)) then
    some true
  else
  some (x9 == x0) := by kernel_rfl
theorem dg3.S0_eq  (x0 : Int) (x6 : Int) (x9 : Int) : dg3.S0 BIG  x0 x6 x9 =
  bif (x6 != (0 : Int)) then
    some true
  else
  some (x9 == x0) := dg3.S0_eqN 18446744073709551615  x0 x6 x9
noncomputable def dg3 (x : DenA dg3.A) : Option (DenR dg3.R) := dg3.N BIG x
noncomputable def dcon3 : Con := ⟨3, dg3.A, dg3.R, false, dg3, none⟩
theorem dsound3 : SoundC Tryd.prog Jd dcon3 :=
  sound_of (Γ := dg3.G) (tt := dtt) (cut := dg3.cut) (keep := dg3.keep) (boxes := []) dcon3 Tryd.f3 (fu := fun _ _ _ => BIG) dtt_ok Jd_keeps ((consS dsound8 (consS dsound9 (consS dsound10 (consS dsound11 noneS))))) dmixed (by kernel_rfl) (by kernel_rfl) fun x r h => Eq.trans (b := Con.fn dcon3 x) (by kernel_rfl) h
end Go.Ev
