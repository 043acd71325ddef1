/-
  SMALL LAWS for the plain meaning of functions: machine integers, places of lists, fuel.
-/
import Derived.Test.YthappjffpkpojaaEvN
import Derived.IntWalk
namespace Go.Ev
open Go
set_option linter.unusedVariables false
set_option linter.unusedSimpArgs false
set_option linter.unusedSectionVars false

def M63 : Int := 9223372036854775807

theorem w64 {n : Int} (h1 : -9223372036854775808 ≤ n) (h2 : n ≤ 9223372036854775807) : IntKind.i64.wrap n = n := IntWalk.i64_in n ⟨h1, h2⟩
theorem w64_over {n : Int} (h1 : 9223372036854775807 < n) (h2 : n ≤ 18446744073709551614) : IntKind.i64.wrap n = n - 18446744073709551616 := by
  rw [IntKind.wrap_i64]; omega
theorem quo64 {x y : Int} (h1 : 0 ≤ x) (h2 : x ≤ 9223372036854775807) (h3 : 1 ≤ y) : IntKind.i64.wrap (x.tdiv y) = x / y := IntWalk.i64_quo x y ⟨h1, h2, h3⟩
theorem tmod_nonneg {x y : Int} (h1 : 0 ≤ x) : x.tmod y = x % y := Int.tmod_eq_emod_of_nonneg h1

theorem cd {p : Prop} [Decidable p] {α : Sort _} (h : p) (a b : α) : (bif decide p then a else b) = a := by rw [decide_eq_true h]; rfl
theorem cnd {p : Prop} [Decidable p] {α : Sort _} (h : ¬ p) (a b : α) : (bif decide p then a else b) = b := by rw [decide_eq_false h]; rfl

theorem idx_nat {α : Type} (xs : List α) (i : Nat) : idx xs (i : Int) = xs[i]? := by
  unfold idx
  rw [cd (by omega)]
  simp

theorem idx_lt {α : Type} {xs : List α} {i : Int} (h0 : 0 ≤ i) (h : i.toNat < xs.length) : idx xs i = some (xs[i.toNat]'h) := by
  unfold idx
  rw [cd h0, List.getElem?_eq_getElem h]

theorem wf64 {n : Int} (h : IntKind.i64.min ≤ n ∧ n ≤ IntKind.i64.max) : -9223372036854775808 ≤ n ∧ n ≤ 9223372036854775807 := h

/-- Fuel. -/
theorem big_gt {n : Nat} (h : n < 1000000000000000000) : ∃ m, BIG = n + m + 1 := ⟨BIG - n - 1, by unfold BIG; omega⟩
end Go.Ev
