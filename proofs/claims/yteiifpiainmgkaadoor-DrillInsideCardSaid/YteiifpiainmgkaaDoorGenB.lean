/-
  PRINTED by the generator of this repo (wip/gen/gen.py): functions of the program as plain Lean functions, with an equation for each part and the proof that the Go calls do what they tell.
-/
import Derived.Test.YteiifpiainmgkaaDoorGenA
import Derived.Test.YteiifpiainmgkaaDoorProg
import Derived.KernelRfl
namespace Go.Ev
open Go Go.Proofs
set_option linter.unusedVariables false
/-! swarf/swarfref27.length -/
noncomputable def dg31.G : List Con := []
def dg31.cut : Cuts := []
def dg31.keep : List Nat := [0, 2]
@[reducible] def dg31.A : List ATy := [.v (.int .i64)]
@[reducible] def dg31.R : List Ty := [.bool]
noncomputable def dg31.N (N : Nat) (x : DenA dg31.A) : Option (DenR dg31.R) := fnR dg31.G dtt dg31.cut dg31.keep [] (fun _ _ => N) Tryd.f31 dg31.R false (encA dg31.A x)
theorem dg31.eq (N : Nat) (a0 : Int) : dg31.N N (a0, ()) =
  bif (decide (a0 ≥ (1 : Int))) then
    some (decide (a0 ≤ (10000000 : Int)))
  else
  some false := by kernel_rfl
noncomputable def dg31 (x : DenA dg31.A) : Option (DenR dg31.R) := dg31.N BIG x
noncomputable def dcon31 : Con := ⟨31, dg31.A, dg31.R, false, dg31, none⟩
theorem dsound31 : SoundC Tryd.prog Jd dcon31 :=
  sound_of (Γ := dg31.G) (tt := dtt) (cut := dg31.cut) (keep := dg31.keep) (boxes := []) dcon31 Tryd.f31 (fu := fun _ _ _ => BIG) dtt_ok Jd_keeps (noneS) dmixed (by kernel_rfl) (by kernel_rfl) fun x r h => Eq.trans (b := Con.fn dcon31 x) (by kernel_rfl) h
/-! swarf/swarfref27.Good -/
noncomputable def dg18.G : List Con := [dcon31]
def dg18.cut : Cuts := []
def dg18.keep : List Nat := [1, 2]
@[reducible] def dg18.A : List ATy := [.v dY32]
@[reducible] def dg18.R : List Ty := [.bool]
noncomputable def dg18.N (N : Nat) (x : DenA dg18.A) : Option (DenR dg18.R) := fnR dg18.G dtt dg18.cut dg18.keep [1] (fun _ _ => N) Tryd.f18 dg18.R false (encA dg18.A x)
theorem dg18.eq (N : Nat) (a0 : (Ty.den dY32)) : dg18.N N (a0, ()) =
  bif (decide (a0.1 ≥ (1 : Int))) then
    bif (decide (a0.1 ≤ (9999 : Int))) then
      bif (decide (a0.2.1 ≥ (1 : Int))) then
        bif (decide (a0.2.1 ≤ (4 : Int))) then
          Option.bind (dg31 (a0.2.2.1, ())) fun y1 =>
          bif y1 then
            Option.bind (dg31 (a0.2.2.2.1, ())) fun y2 =>
            bif y2 then
              Option.bind (dg31 (a0.2.2.2.2.2.1, ())) fun y3 =>
              bif y3 then
                Option.bind (dg31 (a0.2.2.2.2.2.2.1, ())) fun y4 =>
                bif y4 then
                  Option.bind (dg31 (a0.2.2.2.2.2.2.2.1, ())) fun y5 =>
                  bif y5 then
                    bif (decide (a0.2.2.2.2.1 ≥ a0.2.2.1)) then
                      bif (decide (a0.2.2.2.2.1 ≤ (10000000 : Int))) then
                        some (decide (a0.2.2.2.2.2.1 ≤ a0.2.2.2.1))
                      else
                      some false
                    else
                    some false
                  else
                  some false
                else
                some false
              else
              some false
            else
            some false
          else
          some false
        else
        some false
      else
      some false
    else
    some false
  else
  some false := by kernel_rfl
noncomputable def dg18 (x : DenA dg18.A) : Option (DenR dg18.R) := dg18.N BIG x
noncomputable def dcon18 : Con := ⟨18, dg18.A, dg18.R, false, dg18, none⟩
theorem dsound18 : SoundC Tryd.prog Jd dcon18 :=
  sound_of (Γ := dg18.G) (tt := dtt) (cut := dg18.cut) (keep := dg18.keep) (boxes := [1]) dcon18 Tryd.f18 (fu := fun _ _ _ => BIG) dtt_ok Jd_keeps ((consS dsound31 noneS)) dmixed (by kernel_rfl) (by kernel_rfl) fun x r h => Eq.trans (b := Con.fn dcon18 x) (by kernel_rfl) h
/-! swarf/swarfref35.Mills -/
noncomputable def dg29.G : List Con := []
def dg29.cut : Cuts := []
def dg29.keep : List Nat := [1, 2, 4]
@[reducible] def dg29.A : List ATy := [.v dY32, .v (.int .i64)]
@[reducible] def dg29.R : List Ty := [.bool]
noncomputable def dg29.N (N : Nat) (x : DenA dg29.A) : Option (DenR dg29.R) := fnR dg29.G dtt dg29.cut dg29.keep [2] (fun _ _ => N) Tryd.f29 dg29.R false (encA dg29.A x)
theorem dg29.eq (N : Nat) (a0 : (Ty.den dY32)) (a1 : Int) : dg29.N N (a0, a1, ()) =
  bif (a0.2.1 == (1 : Int)) then
    bif (decide (a0.2.2.1 < a1)) then
      some (decide ((IntKind.i64.wrap (a1 - a0.2.2.1)) ≤ a0.2.2.1))
    else
    some false
  else
  some false := by kernel_rfl
noncomputable def dg29 (x : DenA dg29.A) : Option (DenR dg29.R) := dg29.N BIG x
noncomputable def dcon29 : Con := ⟨29, dg29.A, dg29.R, false, dg29, none⟩
theorem dsound29 : SoundC Tryd.prog Jd dcon29 :=
  sound_of (Γ := dg29.G) (tt := dtt) (cut := dg29.cut) (keep := dg29.keep) (boxes := [2]) dcon29 Tryd.f29 (fu := fun _ _ _ => BIG) dtt_ok Jd_keeps (noneS) dmixed (by kernel_rfl) (by kernel_rfl) fun x r h => Eq.trans (b := Con.fn dcon29 x) (by kernel_rfl) h
/-! swarf/swarfref35.far -/
noncomputable def dg30.G : List Con := []
def dg30.cut : Cuts := []
def dg30.keep : List Nat := [0, 2]
@[reducible] def dg30.A : List ATy := [.v (.int .i64)]
@[reducible] def dg30.R : List Ty := [.bool]
noncomputable def dg30.N (N : Nat) (x : DenA dg30.A) : Option (DenR dg30.R) := fnR dg30.G dtt dg30.cut dg30.keep [] (fun _ _ => N) Tryd.f30 dg30.R false (encA dg30.A x)
theorem dg30.eq (N : Nat) (a0 : Int) : dg30.N N (a0, ()) =
  bif (decide (a0 > (10000000 : Int))) then
    some true
  else
  some (decide (a0 < (-10000000 : Int))) := by kernel_rfl
noncomputable def dg30 (x : DenA dg30.A) : Option (DenR dg30.R) := dg30.N BIG x
noncomputable def dcon30 : Con := ⟨30, dg30.A, dg30.R, false, dg30, none⟩
theorem dsound30 : SoundC Tryd.prog Jd dcon30 :=
  sound_of (Γ := dg30.G) (tt := dtt) (cut := dg30.cut) (keep := dg30.keep) (boxes := []) dcon30 Tryd.f30 (fu := fun _ _ _ => BIG) dtt_ok Jd_keeps (noneS) dmixed (by kernel_rfl) (by kernel_rfl) fun x r h => Eq.trans (b := Con.fn dcon30 x) (by kernel_rfl) h
end Go.Ev
