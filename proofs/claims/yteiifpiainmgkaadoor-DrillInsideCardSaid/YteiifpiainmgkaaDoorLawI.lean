/-
  Arcs as chords: no position is farther from the center than the radius, none is lower than the end of the arc.
-/
import Derived.Test.YteiifpiainmgkaaDoorLawK
import Derived.Test.YteiifpiainmgkaaDoorGenM
namespace Go.Ev
open Go Go.Proofs
set_option linter.unusedSimpArgs false
set_option linter.unusedSectionVars false
set_option linter.unusedVariables false

/-! ## The number of chords -/
theorem L41 (need : Int) (h0 : 1 ≤ need) (h1 : need ≤ 1000000) : ∀ (m : Nat) (fuel : Nat) (low high : Int), (high - low).toNat ≤ m → m < fuel → 1 ≤ low → low ≤ high → high ≤ 1073741824 → (low = 1 ∨ (low - 1) * (low - 1) < need) →
    ∃ n : Int, 1 ≤ n ∧ n ≤ 1000 ∧ dg41.L0 BIG fuel need low high = some n := by
  have done : ∀ low : Int, 1 ≤ low → (low = 1 ∨ (low - 1) * (low - 1) < need) → low ≤ 1000 := fun low h hl => by
    rcases hl with hl | hl
    · omega
    · refine Classical.byContradiction fun hn => ?_
      have : 1000 * 1000 ≤ (low - 1) * (low - 1) := Int.mul_le_mul (by omega) (by omega) (by omega) (by omega)
      omega
  intro m
  induction m with
  | zero =>
    intro fuel low high hm hf hl hlh hh hi
    obtain ⟨fuel, rfl⟩ : ∃ n', fuel = n' + 1 := ⟨fuel - 1, by omega⟩
    refine ⟨low, hl, done low hl hi, ?_⟩
    rw [dg41.L0_eq, cnd (by omega)]
  | succ m ih =>
    intro fuel low high hm hf hl hlh hh hi
    obtain ⟨fuel, rfl⟩ : ∃ n', fuel = n' + 1 := ⟨fuel - 1, by omega⟩
    by_cases hlt : low < high
    case neg =>
      refine ⟨low, hl, done low hl hi, ?_⟩
      rw [dg41.L0_eq, cnd hlt]
    have hmid : IntKind.i64.wrap (Int.tdiv (IntKind.i64.wrap (low + high)) 2) = (low + high) / 2 := by
      rw [w64 (n := low + high) (by omega) (by omega), quo64 (by omega) (by omega) (by omega)]
    generalize hM : (low + high) / 2 = M at hmid
    have hM0 : 0 ≤ M * M := Int.mul_nonneg (by omega) (by omega)
    have hM1 : M * M ≤ 1073741824 * 1073741824 := Int.mul_le_mul (by omega) (by omega) (by omega) (by omega)
    rw [dg41.L0_eq, cd hlt, hmid, w64 (n := M * M) (by omega) (by omega)]
    by_cases hge : M * M ≥ need
    · rw [cd hge]
      exact ih fuel low M (by omega) (by omega) hl (by omega) (by omega) hi
    · rw [cnd hge, w64 (n := M + 1) (by omega) (by omega)]
      exact ih fuel (M + 1) high (by omega) (by omega) (by omega) (by omega) hh (.inr (by rw [Int.add_sub_cancel]; omega))

theorem dg41_eq {c : Int} (h : 1 ≤ c ∧ c ≤ 10000000) : ∃ n : Int, 1 ≤ n ∧ n ≤ 1000 ∧ dg41 (c, ()) = some n := by
  unfold dg41
  rw [dg41.eq, cnd (by omega), w64 (n := c - 1) (by omega) (by omega), quo64 (by omega) (by omega) (by omega), w64 (by omega) (by omega)]
  exact L41 _ (by omega) (by omega) 1073741823 BIG 1 1073741824 (by omega) (by unfold BIG; omega) (by omega) (by omega) (by omega) (.inl rfl)

/-! ## Quarter turns -/
theorem and3 (t : Int) : ∃ s : Nat, s ≤ 3 ∧ IntKind.i64.wrap ((BitVec.ofInt IntKind.i64.bits t &&& BitVec.ofInt IntKind.i64.bits 3).toNat : Int) = (s : Int) := by
  refine ⟨(BitVec.ofInt IntKind.i64.bits t &&& BitVec.ofInt IntKind.i64.bits 3).toNat, ?_, ?_⟩
  · rw [BitVec.toNat_and]
    exact Nat.le_trans Nat.and_le_right (by decide)
  · have : (BitVec.ofInt IntKind.i64.bits t &&& BitVec.ofInt IntKind.i64.bits 3).toNat ≤ 3 := by
      rw [BitVec.toNat_and]
      exact Nat.le_trans Nat.and_le_right (by decide)
    rw [w64 (by omega) (by omega)]

theorem L42 (s : Nat) (hs : s ≤ 3) (R : Int) (hR : R ≤ 10000000) : ∀ (m i fuel : Nat) (x y : Int), i + m = s → m < fuel → (-R ≤ x ∧ x ≤ R) → (-R ≤ y ∧ y ≤ R) →
    ∃ x' y' : Int, dg42.L0 BIG fuel x y (s : Int) (i : Int) = some (x', y') ∧ (-R ≤ x' ∧ x' ≤ R) ∧ (-R ≤ y' ∧ y' ≤ R) ∧ x' * x' + y' * y' = x * x + y * y := by
  intro m
  induction m with
  | zero =>
    intro i fuel x y him hf hx hy
    obtain ⟨fuel, rfl⟩ : ∃ n', fuel = n' + 1 := ⟨fuel - 1, by omega⟩
    refine ⟨x, y, ?_, hx, hy, rfl⟩
    rw [dg42.L0_eq, cnd (by omega), dg42.S0_eq]
  | succ m ih =>
    intro i fuel x y him hf hx hy
    obtain ⟨fuel, rfl⟩ : ∃ n', fuel = n' + 1 := ⟨fuel - 1, by omega⟩
    obtain ⟨x', y', h1, h2, h3, h4⟩ := ih (i + 1) fuel (0 - y) x (by omega) (by omega) (by omega) hx
    refine ⟨x', y', ?_, h2, h3, ?_⟩
    · rw [dg42.L0_eq, cd (by omega), w64 (n := 0 - y) (by omega) (by omega), w64 (n := (i : Int) + 1) (by omega) (by omega), show ((i : Int) + 1) = ((i + 1 : Nat) : Int) by simp]
      exact h1
    · rw [h4]; grind

theorem dg42_eq (R : Int) (hR : R ≤ 10000000) (x y t : Int) (hx : -R ≤ x ∧ x ≤ R) (hy : -R ≤ y ∧ y ≤ R) :
    ∃ x' y' : Int, dg42 (x, y, t, ()) = some (x', y') ∧ (-R ≤ x' ∧ x' ≤ R) ∧ (-R ≤ y' ∧ y' ≤ R) ∧ x' * x' + y' * y' = x * x + y * y := by
  obtain ⟨s, hs, e⟩ := and3 t
  obtain ⟨x', y', h1, h2⟩ := L42 s hs R hR s 0 BIG x y (by omega) (by unfold BIG; omega) hx hy
  refine ⟨x', y', ?_, h2⟩
  unfold dg42
  rw [dg42.eq, e]
  exact h1

/-! ## Rounding down -/
theorem dg43_eq {a b L : Int} (hb : 1 ≤ b ∧ b ≤ 1000000) (hL : 0 ≤ L ∧ L ≤ 1000000) (ha : -(L * b) ≤ a) (ha0 : a ≤ 0) : ∃ v : Int, -L ≤ v ∧ v ≤ 0 ∧ dg43 (a, b, ()) = some v := by
  have hLb : L * b ≤ 1000000 * 1000000 := Int.mul_le_mul hL.2 hb.2 (by omega) (by omega)
  have hq : Int.tdiv a b = -((-a) / b) := by
    have : a = -(-a) := by omega
    rw [this, Int.neg_tdiv, Int.tdiv_eq_ediv_of_nonneg (by omega)]
    simp
  have hm : Int.tmod a b = -((-a) % b) := by
    have : a = -(-a) := by omega
    rw [this, Int.neg_tmod, Int.tmod_eq_emod_of_nonneg (by omega)]
    simp
  have h1 : 0 ≤ (-a) / b := Int.ediv_nonneg (by omega) (by omega)
  have h2 : (-a) / b ≤ L := by
    refine Int.ediv_le_of_le_mul (by omega) (by omega)
  have h3 : 0 ≤ (-a) % b := Int.emod_nonneg _ (by omega)
  have h4 : b * ((-a) / b) + (-a) % b = -a := Int.mul_ediv_add_emod (-a) b
  have hw : IntKind.i64.wrap (Int.tdiv a b) = -((-a) / b) := by rw [hq, w64 (by omega) (by omega)]
  unfold dg43
  rw [dg43.eq, show (b == 0) = false by simp; omega]
  simp only [cond_false]
  rw [hm, hw]
  by_cases hc : -((-a) % b) < 0
  · refine ⟨-((-a) / b) - 1, ?_, by omega, ?_⟩
    · have : (-a) / b < L := by
        refine Int.ediv_lt_of_lt_mul (by omega) (Classical.byContradiction fun hn => ?_)
        have e : (-a) = L * b := by omega
        rw [e, Int.mul_emod_left] at hc
        omega
      omega
    · rw [cd hc, w64 (by omega) (by omega)]
  · refine ⟨-((-a) / b), by omega, by omega, ?_⟩
    rw [cnd hc]

/-! ## A chord's end -/
theorem chord {r n k : Int} (hr : 1 ≤ r) (hk : 1 ≤ k) (hkn : k ≤ n) : 0 ≤ r * (n * n - k * k) / (n * n + k * k) ∧ r * (n * n - k * k) / (n * n + k * k) ≤ r ∧ 0 ≤ 2 * r * k * n / (n * n + k * k) ∧ 2 * r * k * n / (n * n + k * k) ≤ r ∧
    (r * (n * n - k * k) / (n * n + k * k)) * (r * (n * n - k * k) / (n * n + k * k)) + (2 * r * k * n / (n * n + k * k)) * (2 * r * k * n / (n * n + k * k)) ≤ r * r := by
  have hkk : 1 ≤ k * k := by have := Int.mul_le_mul hk hk (by omega) (by omega); omega
  have hnn : k * k ≤ n * n := Int.mul_le_mul hkn hkn (by omega) (by omega)
  have hS : 0 < n * n + k * k := by omega
  have hA : 0 ≤ r * (n * n - k * k) := Int.mul_nonneg (by omega) (by omega)
  have hB : 0 ≤ 2 * r * k * n := Int.mul_nonneg (Int.mul_nonneg (by omega) (by omega)) (by omega)
  have hsum : (r * (n * n - k * k)) * (r * (n * n - k * k)) + (2 * r * k * n) * (2 * r * k * n) = (r * (n * n + k * k)) * (r * (n * n + k * k)) := by grind
  generalize r * (n * n - k * k) = A at *
  generalize 2 * r * k * n = B at *
  generalize n * n + k * k = S at *
  have hx0 : 0 ≤ A / S := Int.ediv_nonneg hA (by omega)
  have hy0 : 0 ≤ B / S := Int.ediv_nonneg hB (by omega)
  have hx1 : A / S * S ≤ A := Int.ediv_mul_le _ (by omega)
  have hy1 : B / S * S ≤ B := Int.ediv_mul_le _ (by omega)
  generalize A / S = x at *
  generalize B / S = y at *
  have hxx : (x * S) * (x * S) ≤ A * A := Int.mul_le_mul hx1 hx1 (Int.mul_nonneg hx0 (by omega)) hA
  have hyy : (y * S) * (y * S) ≤ B * B := Int.mul_le_mul hy1 hy1 (Int.mul_nonneg hy0 (by omega)) hB
  have hSS : 0 < S * S := Int.mul_pos hS hS
  have hle : (x * x + y * y) * (S * S) ≤ (r * r) * (S * S) := by
    have e1 : (x * x + y * y) * (S * S) = (x * S) * (x * S) + (y * S) * (y * S) := by grind
    have e2 : (r * r) * (S * S) = (r * S) * (r * S) := by grind
    omega
  have hfin : x * x + y * y ≤ r * r := Int.le_of_mul_le_mul_right hle hSS
  have hxr : x ≤ r := Classical.byContradiction fun hn => by
    have : (r + 1) * (r + 1) ≤ x * x := Int.mul_le_mul (by omega) (by omega) (by omega) (by omega)
    have h2 : 0 ≤ y * y := Int.mul_nonneg hy0 hy0
    have h3 : (r + 1) * (r + 1) = r * r + 2 * r + 1 := by grind
    omega
  have hyr : y ≤ r := Classical.byContradiction fun hn => by
    have : (r + 1) * (r + 1) ≤ y * y := Int.mul_le_mul (by omega) (by omega) (by omega) (by omega)
    have h2 : 0 ≤ x * x := Int.mul_nonneg hx0 hx0
    have h3 : (r + 1) * (r + 1) = r * r + 2 * r + 1 := by grind
    omega
  exact ⟨hx0, hxr, hy0, hyr, hfin⟩
end Go.Ev
