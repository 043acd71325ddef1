/-
  PRINTED by the generator of this repo (wip/gen/gen.py): functions of the program as plain Lean functions, with an equation for each part and the proof that the Go calls do what they tell.
-/
import Derived.Test.YthappjffpkpojaaNePre
import Derived.Test.YthappjffpkpojaaProg
import Derived.KernelRfl
namespace Go.Ev
open Go Go.Proofs
set_option linter.unusedVariables false
@[reducible] def nY44 : Ty := (.pair (.int .i64) (.pair (.int .i64) .unit))
@[reducible] def nY38 : Ty := (.pair (.int .i64) (.pair (.int .i64) (.pair (.int .i64) (.pair .bool .unit))))
@[reducible] def nY24 : Ty := (.pair (.int .i64) (.pair (.int .i64) (.pair (.int .i64) (.pair (.sl nY44) (.pair (.sl nY38) .unit)))))
noncomputable def ntt : TT := [
  (2, ⟨(.int .i64), 0, 8, [], 0, true⟩),
  (3, ⟨(.int .i64), 0, 8, [], 0, true⟩),
  (4, ⟨.bool, 0, 1, [], 0, true⟩),
  (22, ⟨(.sl nY44), 64, 24, [], 0, false⟩),
  (23, ⟨(.sl nY38), 39, 24, [], 0, false⟩),
  (25, ⟨nY24, 0, 72, [(0, 2, (.int .i64)), (1, 2, (.int .i64)), (2, 2, (.int .i64)), (3, 22, (.sl nY44)), (4, 23, (.sl nY38))], 0, false⟩),
  (28, ⟨(.sl nY38), 52, 24, [], 0, false⟩),
  (29, ⟨(.sl (.int .i64)), 3, 24, [], 0, false⟩),
  (30, ⟨(.int .i64), 0, 8, [], 0, true⟩),
  (33, ⟨(.sl nY44), 59, 24, [], 0, false⟩),
  (39, ⟨nY38, 0, 32, [(0, 3, (.int .i64)), (1, 2, (.int .i64)), (2, 2, (.int .i64)), (3, 4, .bool)], 0, true⟩),
  (43, ⟨(.sl nY44), 45, 24, [], 0, false⟩),
  (45, ⟨nY44, 0, 16, [(0, 2, (.int .i64)), (1, 2, (.int .i64))], 0, true⟩),
  (52, ⟨nY38, 0, 32, [(0, 3, (.int .i64)), (1, 2, (.int .i64)), (2, 2, (.int .i64)), (3, 4, .bool)], 0, true⟩),
  (59, ⟨nY44, 0, 16, [(0, 2, (.int .i64)), (1, 2, (.int .i64))], 0, true⟩),
  (64, ⟨nY44, 0, 16, [(0, 2, (.int .i64)), (1, 2, (.int .i64))], 0, true⟩),
  (67, ⟨(.sl (.int .i64)), 2, 24, [], 0, false⟩),
  (82, ⟨(.sl .bool), 4, 24, [], 0, false⟩)]
theorem ntt_ok : TTok Try.prog ntt := ttok_of (by kernel_rfl)
theorem nmixed : Try.prog.follows .mixedOrders = true := by kernel_rfl
/-! swarf/nest.length -/
noncomputable def ng43.G : List Con := []
def ng43.cut : Cuts := []
def ng43.keep : List Nat := [0, 2]
@[reducible] def ng43.A : List ATy := [.v (.int .i64)]
@[reducible] def ng43.R : List Ty := [.bool]
noncomputable def ng43.N (N : Nat) (x : DenA ng43.A) : Option (DenR ng43.R) := fnR ng43.G ntt ng43.cut ng43.keep [] (fun _ _ => N) Try.f43 ng43.R false (encA ng43.A x)
theorem ng43.eq (N : Nat) (a0 : Int) : ng43.N N (a0, ()) =
  bif (decide (a0 ≥ (1 : Int))) then
    some (decide (a0 ≤ (10000000 : Int)))
  else
  some false := by kernel_rfl
noncomputable def ng43 (x : DenA ng43.A) : Option (DenR ng43.R) := ng43.N BIG x
noncomputable def ncon43 : Con := ⟨43, ng43.A, ng43.R, false, ng43, none⟩
theorem nsound43 : SoundC Try.prog Jn ncon43 :=
  sound_of (Γ := ng43.G) (tt := ntt) (cut := ng43.cut) (keep := ng43.keep) (boxes := []) ncon43 Try.f43 (fu := fun _ _ _ => BIG) ntt_ok Jn_keeps (noneS) nmixed (by kernel_rfl) (by kernel_rfl) fun x r h => Eq.trans (b := Con.fn ncon43 x) (by kernel_rfl) h
/-! swarf/nest.admissible$1 -/
noncomputable def ng45.G : List Con := [ncon43]
def ng45.cut : Cuts := []
def ng45.keep : List Nat := [1, 2]
@[reducible] def ng45.A : List ATy := [.v nY44]
@[reducible] def ng45.R : List Ty := [.bool]
noncomputable def ng45.N (N : Nat) (x : DenA ng45.A) : Option (DenR ng45.R) := fnR ng45.G ntt ng45.cut ng45.keep [1] (fun _ _ => N) Try.f45 ng45.R false (encA ng45.A x)
theorem ng45.eq (N : Nat) (a0 : (Ty.den nY44)) : ng45.N N (a0, ()) =
  Option.bind (ng43 (a0.1, ())) fun y1 =>
  bif (!y1) then
    some true
  else
  Option.bind (ng43 (a0.2.1, ())) fun y2 =>
  some (!y2) := by kernel_rfl
noncomputable def ng45 (x : DenA ng45.A) : Option (DenR ng45.R) := ng45.N BIG x
noncomputable def ncon45 : Con := ⟨45, ng45.A, ng45.R, false, ng45, none⟩
theorem nsound45 : SoundC Try.prog Jn ncon45 :=
  sound_of (Γ := ng45.G) (tt := ntt) (cut := ng45.cut) (keep := ng45.keep) (boxes := [1]) ncon45 Try.f45 (fu := fun _ _ _ => BIG) ntt_ok Jn_keeps ((consS nsound43 noneS)) nmixed (by kernel_rfl) (by kernel_rfl) fun x r h => Eq.trans (b := Con.fn ncon45 x) (by kernel_rfl) h
/-! slices.IndexFunc[[]swarf/nest.Item,swarf/nest.Item] -/
noncomputable def ng50_45.G : List Con := [ncon45]
def ng50_45.cut : Cuts := [([0, 1, 0, 1], [0, 1, 7, 8], [])]
def ng50_45.keep : List Nat := [0, 1, 4, 5, 7, 8, 9, 16]
@[reducible] def ng50_45.A : List ATy := [.v (.sl nY44), .cl 45 []]
@[reducible] def ng50_45.R : List Ty := [(.int .i64)]
noncomputable def ng50_45.N (N : Nat) (x : DenA ng50_45.A) : Option (DenR ng50_45.R) := fnR ng50_45.G ntt ng50_45.cut ng50_45.keep [] (fun _ _ => N) Try.f50 ng50_45.R false (encA ng50_45.A x)
noncomputable def ng50_45.L0 (N : Nat) (n : Nat) (x0 : (List (Ty.den nY44))) (x7 : Int) (x8 : Int) : Option (DenR ng50_45.R) := fromLoop ng50_45.G ntt ng50_45.cut ng50_45.keep (fun _ _ => N) (codeOf Try.f50) (retK ntt Try.f50 ng50_45.R false) [1, 0, 1, 0] [] n ⟨[(0, .val ⟨(.sl nY44), x0⟩ false), (1, .clo 45 []), (7, .val ⟨(.int .i64), x7⟩ false), (8, .val ⟨(.int .i64), x8⟩ false)], []⟩
theorem ng50_45.eq (N : Nat) (a0 : (List (Ty.den nY44))) : ng50_45.N N (a0, (()), ()) =
  ng50_45.L0 N N a0 ((List.length a0 : Nat) : Int) (0 : Int) := by kernel_rfl
theorem ng50_45.L0_eq (N : Nat)  (n : Nat) (x0 : (List (Ty.den nY44))) (x7 : Int) (x8 : Int) : ng50_45.L0 N  (n + 1) x0 x7 x8 =
  bif (decide (x8 < x7)) then
    Option.bind (idx x0 x8) fun r1 =>
    Option.bind (ng45 (r1, ())) fun y2 =>
    bif y2 then
      some x8
    else
    ng50_45.L0 N n x0 x7 (IntKind.i64.wrap (x8 + (1 : Int)))
  else
  some (-1 : Int) := by kernel_rfl
theorem ng50_45.L0_zero (N : Nat) (x0 : (List (Ty.den nY44))) (x7 : Int) (x8 : Int) : ng50_45.L0 N  0 x0 x7 x8 = none := by kernel_rfl
noncomputable def ng50_45 (x : DenA ng50_45.A) : Option (DenR ng50_45.R) := ng50_45.N BIG x
noncomputable def ncon50_45 : Con := ⟨50, ng50_45.A, ng50_45.R, false, ng50_45, none⟩
theorem nsound50_45 : SoundC Try.prog Jn ncon50_45 :=
  sound_of (Γ := ng50_45.G) (tt := ntt) (cut := ng50_45.cut) (keep := ng50_45.keep) (boxes := []) ncon50_45 Try.f50 (fu := fun _ _ _ => BIG) ntt_ok Jn_keeps ((consS nsound45 noneS)) nmixed (by kernel_rfl) (by kernel_rfl) fun x r h => Eq.trans (b := Con.fn ncon50_45 x) (by kernel_rfl) h
/-! slices.ContainsFunc[[]swarf/nest.Item,swarf/nest.Item] -/
noncomputable def ng44_45.G : List Con := [ncon50_45]
def ng44_45.cut : Cuts := []
def ng44_45.keep : List Nat := [0, 1, 4]
@[reducible] def ng44_45.A : List ATy := [.v (.sl nY44), .cl 45 []]
@[reducible] def ng44_45.R : List Ty := [.bool]
noncomputable def ng44_45.N (N : Nat) (x : DenA ng44_45.A) : Option (DenR ng44_45.R) := fnR ng44_45.G ntt ng44_45.cut ng44_45.keep [] (fun _ _ => N) Try.f44 ng44_45.R false (encA ng44_45.A x)
theorem ng44_45.eq (N : Nat) (a0 : (List (Ty.den nY44))) : ng44_45.N N (a0, (()), ()) =
  Option.bind (ng50_45 (a0, (()), ())) fun y1 =>
  some (decide (y1 ≥ (0 : Int))) := by kernel_rfl
noncomputable def ng44_45 (x : DenA ng44_45.A) : Option (DenR ng44_45.R) := ng44_45.N BIG x
noncomputable def ncon44_45 : Con := ⟨44, ng44_45.A, ng44_45.R, false, ng44_45, none⟩
theorem nsound44_45 : SoundC Try.prog Jn ncon44_45 :=
  sound_of (Γ := ng44_45.G) (tt := ntt) (cut := ng44_45.cut) (keep := ng44_45.keep) (boxes := []) ncon44_45 Try.f44 (fu := fun _ _ _ => BIG) ntt_ok Jn_keeps ((consS nsound50_45 noneS)) nmixed (by kernel_rfl) (by kernel_rfl) fun x r h => Eq.trans (b := Con.fn ncon44_45 x) (by kernel_rfl) h
/-! swarf/nest.admissible -/
noncomputable def ng28.G : List Con := [ncon43, ncon44_45]
def ng28.cut : Cuts := []
def ng28.keep : List Nat := [0, 1, 2, 3, 8, 29]
@[reducible] def ng28.A : List ATy := [.v (.int .i64), .v (.int .i64), .v (.int .i64), .v (.sl nY44)]
@[reducible] def ng28.R : List Ty := [.bool]
noncomputable def ng28.N (N : Nat) (x : DenA ng28.A) : Option (DenR ng28.R) := fnR ng28.G ntt ng28.cut ng28.keep [] (fun _ _ => N) Try.f28 ng28.R false (encA ng28.A x)
theorem ng28.eq (N : Nat) (a0 : Int) (a1 : Int) (a2 : Int) (a3 : (List (Ty.den nY44))) : ng28.N N (a0, a1, a2, a3, ()) =
  Option.bind (ng43 (a0, ())) fun y1 =>
  bif (!y1) then
    some false
  else
  Option.bind (ng43 (a1, ())) fun y2 =>
  bif (!y2) then
    some false
  else
  bif (decide (a2 < (0 : Int))) then
    some false
  else
  bif (decide (a2 > (10000000 : Int))) then
    some false
  else
  bif (decide (((List.length a3 : Nat) : Int) > (50 : Int))) then
    some false
  else
  Option.bind (ng44_45 (a3, (()), ())) fun y3 =>
  some (!y3) := by kernel_rfl
noncomputable def ng28 (x : DenA ng28.A) : Option (DenR ng28.R) := ng28.N BIG x
noncomputable def ncon28 : Con := ⟨28, ng28.A, ng28.R, false, ng28, none⟩
theorem nsound28 : SoundC Try.prog Jn ncon28 :=
  sound_of (Γ := ng28.G) (tt := ntt) (cut := ng28.cut) (keep := ng28.keep) (boxes := []) ncon28 Try.f28 (fu := fun _ _ _ => BIG) ntt_ok Jn_keeps ((consS nsound43 (consS nsound44_45 noneS))) nmixed (by kernel_rfl) (by kernel_rfl) fun x r h => Eq.trans (b := Con.fn ncon28 x) (by kernel_rfl) h
/-! swarf/nest.size -/
noncomputable def ng31.G : List Con := []
def ng31.cut : Cuts := []
def ng31.keep : List Nat := [0, 3, 4, 5, 6, 13]
@[reducible] def ng31.A : List ATy := [.v (.sl nY44), .v nY38]
@[reducible] def ng31.R : List Ty := [(.int .i64), (.int .i64)]
noncomputable def ng31.N (N : Nat) (x : DenA ng31.A) : Option (DenR ng31.R) := fnR ng31.G ntt ng31.cut ng31.keep [3, 6] (fun _ _ => N) Try.f31 ng31.R false (encA ng31.A x)
theorem ng31.eq (N : Nat) (a0 : (List (Ty.den nY44))) (a1 : (Ty.den nY38)) : ng31.N N (a0, a1, ()) =
  Option.bind (idx a0 a1.1) fun r1 =>
  bif a1.2.2.2.1 then
    some (r1.2.1, r1.1)
  else
  some (r1.1, r1.2.1) := by kernel_rfl
noncomputable def ng31 (x : DenA ng31.A) : Option (DenR ng31.R) := ng31.N BIG x
noncomputable def ncon31 : Con := ⟨31, ng31.A, ng31.R, false, ng31, none⟩
theorem nsound31 : SoundC Try.prog Jn ncon31 :=
  sound_of (Γ := ng31.G) (tt := ntt) (cut := ng31.cut) (keep := ng31.keep) (boxes := [3, 6]) ncon31 Try.f31 (fu := fun _ _ _ => BIG) ntt_ok Jn_keeps (noneS) nmixed (by kernel_rfl) (by kernel_rfl) fun x r h => Eq.trans (b := Con.fn ncon31 x) (by kernel_rfl) h
/-! swarf/nest.on -/
noncomputable def ng36.G : List Con := [ncon31]
def ng36.cut : Cuts := []
def ng36.keep : List Nat := [0, 1, 2, 3, 9, 10, 11, 12, 34]
@[reducible] def ng36.A : List ATy := [.v (.int .i64), .v (.int .i64), .v (.int .i64), .v (.sl nY44), .v nY38]
@[reducible] def ng36.R : List Ty := [.bool]
noncomputable def ng36.N (N : Nat) (x : DenA ng36.A) : Option (DenR ng36.R) := fnR ng36.G ntt ng36.cut ng36.keep [9] (fun _ _ => N) Try.f36 ng36.R false (encA ng36.A x)
theorem ng36.eq (N : Nat) (a0 : Int) (a1 : Int) (a2 : Int) (a3 : (List (Ty.den nY44))) (a4 : (Ty.den nY38)) : ng36.N N (a0, a1, a2, a3, a4, ()) =
  bif (decide (a4.2.1 < a2)) then
    some false
  else
  bif (decide (a4.2.2.1 < a2)) then
    some false
  else
  bif (decide (a4.2.1 > a0)) then
    some false
  else
  bif (decide (a4.2.2.1 > a1)) then
    some false
  else
  Option.bind (ng31 (a3, a4, ())) fun y1 =>
  bif (decide ((IntKind.i64.wrap ((IntKind.i64.wrap (a4.2.1 + y1.1)) + a2)) ≤ a0)) then
    some (decide ((IntKind.i64.wrap ((IntKind.i64.wrap (a4.2.2.1 + y1.2)) + a2)) ≤ a1))
  else
  some false := by kernel_rfl
noncomputable def ng36 (x : DenA ng36.A) : Option (DenR ng36.R) := ng36.N BIG x
noncomputable def ncon36 : Con := ⟨36, ng36.A, ng36.R, false, ng36, none⟩
theorem nsound36 : SoundC Try.prog Jn ncon36 :=
  sound_of (Γ := ng36.G) (tt := ntt) (cut := ng36.cut) (keep := ng36.keep) (boxes := [9]) ncon36 Try.f36 (fu := fun _ _ _ => BIG) ntt_ok Jn_keeps ((consS nsound31 noneS)) nmixed (by kernel_rfl) (by kernel_rfl) fun x r h => Eq.trans (b := Con.fn ncon36 x) (by kernel_rfl) h
/-! swarf/nest.apart -/
noncomputable def ng37.G : List Con := [ncon31]
def ng37.cut : Cuts := []
def ng37.keep : List Nat := [0, 1, 6, 7, 8, 9, 10, 11, 12]
@[reducible] def ng37.A : List ATy := [.v (.int .i64), .v (.sl nY44), .v nY38, .v nY38]
@[reducible] def ng37.R : List Ty := [.bool]
noncomputable def ng37.N (N : Nat) (x : DenA ng37.A) : Option (DenR ng37.R) := fnR ng37.G ntt ng37.cut ng37.keep [6, 7] (fun _ _ => N) Try.f37 ng37.R false (encA ng37.A x)
theorem ng37.eq (N : Nat) (a0 : Int) (a1 : (List (Ty.den nY44))) (a2 : (Ty.den nY38)) (a3 : (Ty.den nY38)) : ng37.N N (a0, a1, a2, a3, ()) =
  Option.bind (ng31 (a1, a2, ())) fun y1 =>
  Option.bind (ng31 (a1, a3, ())) fun y2 =>
  bif (decide ((IntKind.i64.wrap ((IntKind.i64.wrap (a2.2.1 + y1.1)) + a0)) ≤ a3.2.1)) then
    some true
  else
  bif (decide ((IntKind.i64.wrap ((IntKind.i64.wrap (a3.2.1 + y2.1)) + a0)) ≤ a2.2.1)) then
    some true
  else
  bif (decide ((IntKind.i64.wrap ((IntKind.i64.wrap (a2.2.2.1 + y1.2)) + a0)) ≤ a3.2.2.1)) then
    some true
  else
  some (decide ((IntKind.i64.wrap ((IntKind.i64.wrap (a3.2.2.1 + y2.2)) + a0)) ≤ a2.2.2.1)) := by kernel_rfl
noncomputable def ng37 (x : DenA ng37.A) : Option (DenR ng37.R) := ng37.N BIG x
noncomputable def ncon37 : Con := ⟨37, ng37.A, ng37.R, false, ng37, none⟩
theorem nsound37 : SoundC Try.prog Jn ncon37 :=
  sound_of (Γ := ng37.G) (tt := ntt) (cut := ng37.cut) (keep := ng37.keep) (boxes := [6, 7]) ncon37 Try.f37 (fu := fun _ _ _ => BIG) ntt_ok Jn_keeps ((consS nsound31 noneS)) nmixed (by kernel_rfl) (by kernel_rfl) fun x r h => Eq.trans (b := Con.fn ncon37 x) (by kernel_rfl) h
/-! swarf/nest.Valid -/
noncomputable def ng19.G : List Con := [ncon28, ncon36, ncon37]
def ng19.cut : Cuts := [([0, 1, 0, 1, 1], [0, 1, 2, 3, 4, 21, 22, 23], []), ([0, 1, 1, 1, 0, 0, 1, 1, 0, 0, 1, 0, 1, 1], [0, 1, 2, 3, 4, 12, 21, 22, 23, 49, 50, 51], [12])]
def ng19.keep : List Nat := [0, 1, 2, 3, 4, 10, 11, 12, 14, 20, 21, 22, 23, 24, 46, 49, 50, 51, 52, 67]
@[reducible] def ng19.A : List ATy := [.v (.int .i64), .v (.int .i64), .v (.int .i64), .v (.sl nY44), .v (.sl nY38)]
@[reducible] def ng19.R : List Ty := [.bool]
noncomputable def ng19.N (N : Nat) (x : DenA ng19.A) : Option (DenR ng19.R) := fnR ng19.G ntt ng19.cut ng19.keep [12, 14] (fun _ _ => N) Try.f19 ng19.R false (encA ng19.A x)
noncomputable def ng19.L0 (N : Nat) (n : Nat) (x0 : Int) (x1 : Int) (x2 : Int) (x3 : (List (Ty.den nY44))) (x4 : (List (Ty.den nY38))) (x21 : (List (Ty.den nY38))) (x22 : Int) (x23 : Int) : Option (DenR ng19.R) := fromLoop ng19.G ntt ng19.cut ng19.keep (fun _ _ => N) (codeOf Try.f19) (retK ntt Try.f19 ng19.R false) [1, 1, 0, 1, 0] [] n ⟨[(0, .val ⟨(.int .i64), x0⟩ false), (1, .val ⟨(.int .i64), x1⟩ false), (2, .val ⟨(.int .i64), x2⟩ false), (3, .val ⟨(.sl nY44), x3⟩ false), (4, .val ⟨(.sl nY38), x4⟩ false), (21, .val ⟨(.sl nY38), x21⟩ false), (22, .val ⟨(.int .i64), x22⟩ false), (23, .val ⟨(.int .i64), x23⟩ false)], []⟩
noncomputable def ng19.L1 (N : Nat) (n0 : Nat) (n : Nat) (x0 : Int) (x1 : Int) (x2 : Int) (x3 : (List (Ty.den nY44))) (x4 : (List (Ty.den nY38))) (x21 : (List (Ty.den nY38))) (x22 : Int) (x23 : Int) (x49 : (List (Ty.den nY38))) (x50 : Int) (x51 : Int) (b12 : (Ty.den nY38)) : Option (DenR ng19.R) := fromLoop ng19.G ntt ng19.cut ng19.keep (fun _ _ => N) (codeOf Try.f19) (retK ntt Try.f19 ng19.R false) [1, 1, 0, 1, 0, 0, 1, 1, 0, 0, 1, 1, 1, 0] [n0] n ⟨[(0, .val ⟨(.int .i64), x0⟩ false), (1, .val ⟨(.int .i64), x1⟩ false), (2, .val ⟨(.int .i64), x2⟩ false), (3, .val ⟨(.sl nY44), x3⟩ false), (4, .val ⟨(.sl nY38), x4⟩ false), (12, .ref 12 0), (21, .val ⟨(.sl nY38), x21⟩ false), (22, .val ⟨(.int .i64), x22⟩ false), (23, .val ⟨(.int .i64), x23⟩ false), (49, .val ⟨(.sl nY38), x49⟩ false), (50, .val ⟨(.int .i64), x50⟩ false), (51, .val ⟨(.int .i64), x51⟩ false)], [(12, ⟨nY38, b12, []⟩)]⟩
theorem ng19.eq (N : Nat) (a0 : Int) (a1 : Int) (a2 : Int) (a3 : (List (Ty.den nY44))) (a4 : (List (Ty.den nY38))) : ng19.N N (a0, a1, a2, a3, a4, ()) =
  Option.bind (ng28 (a0, a1, a2, a3, ())) fun y1 =>
  bif (!y1) then
    some false
  else
  ng19.L0 N N a0 a1 a2 a3 a4 a4 ((List.length a4 : Nat) : Int) (0 : Int) := by kernel_rfl
theorem ng19.L0_eq (N : Nat)  (n : Nat) (x0 : Int) (x1 : Int) (x2 : Int) (x3 : (List (Ty.den nY44))) (x4 : (List (Ty.den nY38))) (x21 : (List (Ty.den nY38))) (x22 : Int) (x23 : Int) : ng19.L0 N  (n + 1) x0 x1 x2 x3 x4 x21 x22 x23 =
  bif (decide (x23 < x22)) then
    Option.bind (idx x21 x23) fun r2 =>
    bif (decide (r2.1 < (0 : Int))) then
      some false
    else
    bif (decide (r2.1 ≥ ((List.length x3 : Nat) : Int))) then
      some false
    else
    Option.bind (ng36 (x0, x1, x2, x3, r2, ())) fun y3 =>
    bif (!y3) then
      some false
    else
    bif (decide (0 ≤ x23) && decide (x23 ≤ ((List.length x4 : Nat) : Int))) then
      ng19.L1 N n N x0 x1 x2 x3 x4 x21 x22 x23 (List.take (Int.toNat x23) x4) ((List.length (List.take (Int.toNat x23) x4) : Nat) : Int) (0 : Int) r2
    else
    none
  else
  some true := by kernel_rfl
theorem ng19.L0_zero (N : Nat) (x0 : Int) (x1 : Int) (x2 : Int) (x3 : (List (Ty.den nY44))) (x4 : (List (Ty.den nY38))) (x21 : (List (Ty.den nY38))) (x22 : Int) (x23 : Int) : ng19.L0 N  0 x0 x1 x2 x3 x4 x21 x22 x23 = none := by kernel_rfl
theorem ng19.L1_eq (N : Nat) (n0 : Nat) (n : Nat) (x0 : Int) (x1 : Int) (x2 : Int) (x3 : (List (Ty.den nY44))) (x4 : (List (Ty.den nY38))) (x21 : (List (Ty.den nY38))) (x22 : Int) (x23 : Int) (x49 : (List (Ty.den nY38))) (x50 : Int) (x51 : Int) (b12 : (Ty.den nY38)) : ng19.L1 N n0 (n + 1) x0 x1 x2 x3 x4 x21 x22 x23 x49 x50 x51 b12 =
  bif (decide (x51 < x50)) then
    Option.bind (idx x49 x51) fun r4 =>
    bif (b12.1 == r4.1) then
      some false
    else
    Option.bind (ng37 (x2, x3, b12, r4, ())) fun y5 =>
    bif (!y5) then
      some false
    else
    ng19.L1 N n0 n x0 x1 x2 x3 x4 x21 x22 x23 x49 x50 (IntKind.i64.wrap (x51 + (1 : Int))) b12
  else
  ng19.L0 N n0 x0 x1 x2 x3 x4 x21 x22 (IntKind.i64.wrap (x23 + (1 : Int))) := by kernel_rfl
theorem ng19.L1_zero (N : Nat) (n0 : Nat) (x0 : Int) (x1 : Int) (x2 : Int) (x3 : (List (Ty.den nY44))) (x4 : (List (Ty.den nY38))) (x21 : (List (Ty.den nY38))) (x22 : Int) (x23 : Int) (x49 : (List (Ty.den nY38))) (x50 : Int) (x51 : Int) (b12 : (Ty.den nY38)) : ng19.L1 N n0 0 x0 x1 x2 x3 x4 x21 x22 x23 x49 x50 x51 b12 = none := by kernel_rfl
noncomputable def ng19 (x : DenA ng19.A) : Option (DenR ng19.R) := ng19.N BIG x
noncomputable def ncon19 : Con := ⟨19, ng19.A, ng19.R, false, ng19, none⟩
theorem nsound19 : SoundC Try.prog Jn ncon19 :=
  sound_of (Γ := ng19.G) (tt := ntt) (cut := ng19.cut) (keep := ng19.keep) (boxes := [12, 14]) ncon19 Try.f19 (fu := fun _ _ _ => BIG) ntt_ok Jn_keeps ((consS nsound28 (consS nsound36 (consS nsound37 noneS)))) nmixed (by kernel_rfl) (by kernel_rfl) fun x r h => Eq.trans (b := Con.fn ncon19 x) (by kernel_rfl) h
/-! swarf/nest.Spots, up to the sorts -/
noncomputable def ng1016.G : List Con := [ncon19, ncon31]
def ng1016.cut : Cuts := [([0, 1, 0, 1, 1, 1], [2, 3, 10, 11, 12, 33, 34, 35], [])]
def ng1016.keep : List Nat := [0, 1, 2, 3, 4, 10, 11, 12, 14, 15, 16, 28, 33, 34, 35, 36]
@[reducible] def ng1016.A : List ATy := [.v (.int .i64), .v (.int .i64), .v (.int .i64), .v (.sl nY44), .v (.sl nY38)]
@[reducible] def ng1016.R : List Ty := [(.sl nY44)]
noncomputable def ng1016.N (N : Nat) (x : DenA ng1016.A) : Option (List (Ty.den nY44) ⊕ (List Int × List Int)) := run ng1016.G ntt ng1016.cut ng1016.keep (fun _ _ => N) (codeOf Try.f1016) [] (startF ng1016.keep [14] (encA ng1016.A x)) (retP)
noncomputable def ng1016.L0 (N : Nat) (n : Nat) (x2 : Int) (x3 : (List (Ty.den nY44))) (x10 : (List (Ty.den nY44))) (x11 : (List Int)) (x12 : (List Int)) (x33 : (List (Ty.den nY38))) (x34 : Int) (x35 : Int) : Option (List (Ty.den nY44) ⊕ (List Int × List Int)) := fromLoop ng1016.G ntt ng1016.cut ng1016.keep (fun _ _ => N) (codeOf Try.f1016) (retP) [1, 1, 1, 0, 1, 0] [] n ⟨[(2, .val ⟨(.int .i64), x2⟩ false), (3, .val ⟨(.sl nY44), x3⟩ false), (10, .val ⟨(.sl nY44), x10⟩ true), (11, .val ⟨(.sl (.int .i64)), x11⟩ true), (12, .val ⟨(.sl (.int .i64)), x12⟩ true), (33, .val ⟨(.sl nY38), x33⟩ false), (34, .val ⟨(.int .i64), x34⟩ false), (35, .val ⟨(.int .i64), x35⟩ false)], []⟩
theorem ng1016.eq (N : Nat) (a0 : Int) (a1 : Int) (a2 : Int) (a3 : (List (Ty.den nY44))) (a4 : (List (Ty.den nY38))) : ng1016.N N (a0, a1, a2, a3, a4, ()) =
  Option.bind (ng19 (a0, a1, a2, a3, a4, ())) fun y1 =>
  bif (!y1) then
    some (.inl [])
  else
  ng1016.L0 N N a2 a3 [] [a2] [a2] a4 ((List.length a4 : Nat) : Int) (0 : Int) := by kernel_rfl
theorem ng1016.L0_eq (N : Nat)  (n : Nat) (x2 : Int) (x3 : (List (Ty.den nY44))) (x10 : (List (Ty.den nY44))) (x11 : (List Int)) (x12 : (List Int)) (x33 : (List (Ty.den nY38))) (x34 : Int) (x35 : Int) : ng1016.L0 N  (n + 1) x2 x3 x10 x11 x12 x33 x34 x35 =
  bif (decide (x35 < x34)) then
    Option.bind (idx x33 x35) fun r2 =>
    Option.bind (ng31 (x3, r2, ())) fun y3 =>
    bif (decide (List.length x11 + List.length ([(IntKind.i64.wrap ((IntKind.i64.wrap (r2.2.1 + y3.1)) + x2))] : (List Int)) ≤ most)) then
      bif (decide (List.length x12 + List.length ([(IntKind.i64.wrap ((IntKind.i64.wrap (r2.2.2.1 + y3.2)) + x2))] : (List Int)) ≤ most)) then
        ng1016.L0 N n x2 x3 x10 (x11 ++ ([(IntKind.i64.wrap ((IntKind.i64.wrap (r2.2.1 + y3.1)) + x2))] : (List Int))) (x12 ++ ([(IntKind.i64.wrap ((IntKind.i64.wrap (r2.2.2.1 + y3.2)) + x2))] : (List Int))) x33 x34 (IntKind.i64.wrap (x35 + (1 : Int)))
      else
      none
    else
    none
  else
  some (.inr (x11, x12)) := by kernel_rfl
theorem ng1016.L0_zero (N : Nat) (x2 : Int) (x3 : (List (Ty.den nY44))) (x10 : (List (Ty.den nY44))) (x11 : (List Int)) (x12 : (List Int)) (x33 : (List (Ty.den nY38))) (x34 : Int) (x35 : Int) : ng1016.L0 N  0 x2 x3 x10 x11 x12 x33 x34 x35 = none := by kernel_rfl
noncomputable def ng1016 (x : DenA ng1016.A) : Option (List (Ty.den nY44) ⊕ (List Int × List Int)) := ng1016.N BIG x

/-! swarf/nest.Spots, from the grid on -/
noncomputable def ng2016.G : List Con := []
def ng2016.cut : Cuts := [([0, 1, 0, 1], [11, 17, 72, 73, 74], []), ([0, 1, 1, 0, 0, 1, 1, 0, 0, 1, 0, 1], [11, 17, 19, 72, 73, 74, 78, 79, 80], [])]
def ng2016.keep : List Nat := [10, 11, 12, 17, 19, 21, 72, 73, 74, 75, 78, 79, 80, 81]
@[reducible] def ng2016.A : List ATy := [.v (.sl (.int .i64)), .v (.sl (.int .i64))]
@[reducible] def ng2016.R : List Ty := [(.sl nY44)]
noncomputable def ng2016.N (N : Nat) (x : DenA ng2016.A) : Option (DenR ng2016.R) := run ng2016.G ntt ng2016.cut ng2016.keep (fun _ _ => N) (codeOf Try.f2016) [] ⟨(setE (setE (ng2016.keep.map fun s => (s, .undef)) 11 (.val ⟨(.sl (.int .i64)), x.1⟩ false)) 12 (.val ⟨(.sl (.int .i64)), x.2.1⟩ false)), []⟩ (retK ntt Try.f2016 ng2016.R false)
noncomputable def ng2016.L0 (N : Nat) (n : Nat) (x11 : (List Int)) (x17 : (List (Ty.den nY44))) (x72 : (List Int)) (x73 : Int) (x74 : Int) : Option (DenR ng2016.R) := fromLoop ng2016.G ntt ng2016.cut ng2016.keep (fun _ _ => N) (codeOf Try.f2016) (retK ntt Try.f2016 ng2016.R false) [1, 0, 1, 0] [] n ⟨[(11, .val ⟨(.sl (.int .i64)), x11⟩ false), (17, .val ⟨(.sl nY44), x17⟩ true), (72, .val ⟨(.sl (.int .i64)), x72⟩ false), (73, .val ⟨(.int .i64), x73⟩ false), (74, .val ⟨(.int .i64), x74⟩ false)], []⟩
noncomputable def ng2016.L1 (N : Nat) (n0 : Nat) (n : Nat) (x11 : (List Int)) (x17 : (List (Ty.den nY44))) (x19 : Int) (x72 : (List Int)) (x73 : Int) (x74 : Int) (x78 : (List Int)) (x79 : Int) (x80 : Int) : Option (DenR ng2016.R) := fromLoop ng2016.G ntt ng2016.cut ng2016.keep (fun _ _ => N) (codeOf Try.f2016) (retK ntt Try.f2016 ng2016.R false) [1, 0, 1, 0, 0, 1, 1, 0, 0, 1, 1, 0] [n0] n ⟨[(11, .val ⟨(.sl (.int .i64)), x11⟩ false), (17, .val ⟨(.sl nY44), x17⟩ true), (19, .val ⟨(.int .i64), x19⟩ false), (72, .val ⟨(.sl (.int .i64)), x72⟩ false), (73, .val ⟨(.int .i64), x73⟩ false), (74, .val ⟨(.int .i64), x74⟩ false), (78, .val ⟨(.sl (.int .i64)), x78⟩ false), (79, .val ⟨(.int .i64), x79⟩ false), (80, .val ⟨(.int .i64), x80⟩ false)], []⟩
theorem ng2016.eq (N : Nat) (a0 : (List Int)) (a1 : (List Int)) : ng2016.N N (a0, a1, ()) =
  ng2016.L0 N N a0 [] a1 ((List.length a1 : Nat) : Int) (0 : Int) := by kernel_rfl
theorem ng2016.L0_eq (N : Nat)  (n : Nat) (x11 : (List Int)) (x17 : (List (Ty.den nY44))) (x72 : (List Int)) (x73 : Int) (x74 : Int) : ng2016.L0 N  (n + 1) x11 x17 x72 x73 x74 =
  bif (decide (x74 < x73)) then
    Option.bind (idx x72 x74) fun r1 =>
    ng2016.L1 N n N x11 x17 r1 x72 x73 x74 x11 ((List.length x11 : Nat) : Int) (0 : Int)
  else
  some x17 := by kernel_rfl
theorem ng2016.L0_zero (N : Nat) (x11 : (List Int)) (x17 : (List (Ty.den nY44))) (x72 : (List Int)) (x73 : Int) (x74 : Int) : ng2016.L0 N  0 x11 x17 x72 x73 x74 = none := by kernel_rfl
theorem ng2016.L1_eq (N : Nat) (n0 : Nat) (n : Nat) (x11 : (List Int)) (x17 : (List (Ty.den nY44))) (x19 : Int) (x72 : (List Int)) (x73 : Int) (x74 : Int) (x78 : (List Int)) (x79 : Int) (x80 : Int) : ng2016.L1 N n0 (n + 1) x11 x17 x19 x72 x73 x74 x78 x79 x80 =
  bif (decide (x80 < x79)) then
    Option.bind (idx x78 x80) fun r2 =>
    bif (decide (List.length x17 + List.length ([(r2, x19, ())] : (List (Ty.den nY44))) ≤ most)) then
      ng2016.L1 N n0 n x11 (x17 ++ ([(r2, x19, ())] : (List (Ty.den nY44)))) x19 x72 x73 x74 x78 x79 (IntKind.i64.wrap (x80 + (1 : Int)))
    else
    none
  else
  ng2016.L0 N n0 x11 x17 x72 x73 (IntKind.i64.wrap (x74 + (1 : Int))) := by kernel_rfl
theorem ng2016.L1_zero (N : Nat) (n0 : Nat) (x11 : (List Int)) (x17 : (List (Ty.den nY44))) (x19 : Int) (x72 : (List Int)) (x73 : Int) (x74 : Int) (x78 : (List Int)) (x79 : Int) (x80 : Int) : ng2016.L1 N n0 0 x11 x17 x19 x72 x73 x74 x78 x79 x80 = none := by kernel_rfl
noncomputable def ng2016 (x : DenA ng2016.A) : Option (DenR ng2016.R) := ng2016.N BIG x

end Go.Ev
