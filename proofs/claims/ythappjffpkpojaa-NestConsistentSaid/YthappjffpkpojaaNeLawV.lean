/-
  THE PLAIN LAW of NestValid.
-/
import Derived.Test.YthappjffpkpojaaNeLawC
namespace Go.Ev
open Go
set_option linter.unusedVariables false
set_option linter.unusedSimpArgs false
set_option linter.unusedSectionVars false

theorem ng8_few (a0 : Ty.den nY24) : ∃ b, ng8 (a0, ()) = some b ∧ (b = true → (a0.2.2.2.1.length ≤ 8 ∨ (50 < a0.2.2.2.1.length ∧ a0.2.2.2.1.length < 60)) ∧ a0.2.2.2.2.1.length ≤ 8) := by
  have e : ng8 (a0, ()) = ng8.N BIG (a0, ()) := rfl
  rw [e, ng8.eq]
  by_cases c1 : ((List.length a0.2.2.2.1 : Nat) : Int) ≤ 8
  · rw [cd c1]
    exact ⟨_, rfl, fun h => by simp only [decide_eq_true_eq] at h; omega⟩
  · rw [cnd c1]
    by_cases c2 : ((List.length a0.2.2.2.1 : Nat) : Int) > 50
    · rw [cd c2]
      by_cases c3 : ((List.length a0.2.2.2.1 : Nat) : Int) < 60
      · rw [cd c3]
        exact ⟨_, rfl, fun h => by simp only [decide_eq_true_eq] at h; omega⟩
      · rw [cnd c3]
        exact ⟨_, rfl, fun h => by cases h⟩
    · rw [cnd c2]
      exact ⟨_, rfl, fun h => by cases h⟩

theorem ng5_true (x : DenA ng5.A) (h : WfA ng5.A x) : ng5 x = some true := by
  obtain ⟨a0, a1, u⟩ := x
  show ng5.N BIG (a0, a1, ()) = some true
  rw [ng5.eq, nAwake]
  simp only [Option.bind_some, Bool.not_true, cond_false]
  obtain ⟨b, hb, hf⟩ := ng8_few a0
  rw [hb]
  cases b with
  | false => rfl
  | true =>
    obtain ⟨h1, h2⟩ := hf rfl
    have e1 := copy10 a0.2.2.2.1 (by omega)
    have e2 := copy17 a0.2.2.2.2.1 (by omega)
    have e3 := copy17 [a1] (by simp)
    simp only [Option.bind_some, Bool.not_true, cond_false, e1, e2, e3]
    rw [ng19_eq (by omega) (by omega), ng20_eq (by omega) (by omega)]
    simp only [Option.bind_some, beq_self_eq_true, Bool.not_true, cond_false]
    rw [show idx [a1] (0 : Int) = some a1 from rfl]
    simp only [Option.bind_some]
    rw [ng21_eq (by omega) (by omega), ng22_eq (by omega) (by omega)]
    simp
end Go.Ev
