/-
  DrillPecks: the plain law: both texts give the same depths.
-/
import Derived.Test.YteiifpiainmgkaaDoorGenA
import Derived.Test.YteiifpiainmgkaaDoorMth
namespace Go.Ev
open Go Go.Proofs
set_option linter.unusedVariables false
set_option linter.unusedSimpArgs false
set_option linter.unusedSectionVars false
theorem awake_ok : dg8 () = some true := by kernel_rfl

/-- The first depths. -/
def pk (b : Int) : Nat → List Int
  | 0 => []
  | i + 1 => pk b i ++ [((i : Int) + 1) * b]

theorem pk_length (b : Int) : ∀ i, (pk b i).length = i
  | 0 => rfl
  | i + 1 => by simp [pk, pk_length b i]

theorem pk_get (b : Int) : ∀ (i j : Nat), j < i → (pk b i)[j]? = some (((j : Int) + 1) * b)
  | 0, j, h => by omega
  | i + 1, j, h => by
    by_cases hj : j < i
    · rw [pk, List.getElem?_append_left (by rw [pk_length]; exact hj), pk_get b i j hj]
    · obtain rfl : j = i := by omega
      rw [pk, List.getElem?_append_right (by rw [pk_length]; omega), pk_length]
      simp

section
variable {a b : Int} (ha : 1 ≤ a) (ha2 : a ≤ 9223372036854775807) (hb : 1 ≤ b) (hb2 : b ≤ 9223372036854775807) {k : Nat} (hk : (k : Int) = (a - 1) / b) (hk2 : k < 1000)

include ha hb hk in
theorem pk_lt (i : Nat) : ((i : Int) + 1) * b < a ↔ i < k := by
  constructor
  · intro h
    have h1 : ((i : Int) + 1) ≤ (a - 1) / b := (Int.le_ediv_iff_mul_le (by omega)).2 (by omega)
    omega
  · intro h
    have h1 : ((i : Int) + 1) ≤ (a - 1) / b := by omega
    have := (Int.le_ediv_iff_mul_le (by omega)).1 h1
    omega

include ha ha2 hb hb2 hk hk2 in
theorem L9 : ∀ (m i n : Nat), i + m = k → m < n → dg9.L0 BIG n a b (pk b i) (((i : Int) + 1) * b) = dg9.S0 BIG a (pk b k) := by
  intro m
  induction m with
  | zero =>
    intro i n him hn
    obtain rfl : i = k := by omega
    obtain ⟨n, rfl⟩ : ∃ n', n = n' + 1 := ⟨n - 1, by omega⟩
    rw [dg9.L0_eq, cnd (by rw [pk_lt ha hb hk]; omega)]
  | succ m ih =>
    intro i n him hn
    obtain ⟨n, rfl⟩ : ∃ n', n = n' + 1 := ⟨n - 1, by omega⟩
    have hlt : ((i : Int) + 1) * b < a := (pk_lt ha hb hk i).2 (by omega)
    have hpos : 1 ≤ ((i : Int) + 1) * b := Int.mul_pos (by omega) (by omega)
    rw [dg9.L0_eq, cd hlt, cd (by simp [pk_length, most]; omega), w64 (n := a - b) (by omega) (by omega)]
    have e : pk b i ++ ([((i : Int) + 1) * b] : List Int) = pk b (i + 1) := rfl
    have e2 : ((i : Int) + 1) * b + b = (((i + 1 : Nat) : Int) + 1) * b := by push_cast; rw [Int.add_mul ((i : Int) + 1) 1 b]; omega
    by_cases hgt : ((i : Int) + 1) * b > a - b
    · rw [cd hgt, e]
      have : ¬ (i + 1 < k) := fun h => by
        have := (pk_lt ha hb hk (i + 1)).2 h
        rw [← e2] at this
        omega
      obtain rfl : i + 1 = k := by omega
      rfl
    · rw [cnd hgt, e]
      rw [w64 (by omega) (by omega), e2]
      exact ih (i + 1) n (by omega) (by omega)

include ha ha2 hb hb2 hk hk2 in
theorem L10 : ∀ (m i n : Nat), i + m = k → m < n → dg10.L0 BIG n a b (pk b i) (((i : Int) + 1) * b) = dg10.S0 BIG a (pk b k) := by
  intro m
  induction m with
  | zero =>
    intro i n him hn
    obtain rfl : i = k := by omega
    obtain ⟨n, rfl⟩ : ∃ n', n = n' + 1 := ⟨n - 1, by omega⟩
    rw [dg10.L0_eq, cnd (by rw [pk_lt ha hb hk]; omega)]
  | succ m ih =>
    intro i n him hn
    obtain ⟨n, rfl⟩ : ∃ n', n = n' + 1 := ⟨n - 1, by omega⟩
    have hlt : ((i : Int) + 1) * b < a := (pk_lt ha hb hk i).2 (by omega)
    have hpos : 1 ≤ ((i : Int) + 1) * b := Int.mul_pos (by omega) (by omega)
    rw [dg10.L0_eq, cd hlt, cd (by omega), cd (by simp [pk_length, most]; omega)]
    have e : pk b i ++ ([((i : Int) + 1) * b] : List Int) = pk b (i + 1) := rfl
    have e2 : ((i : Int) + 1) * b + b = (((i + 1 : Nat) : Int) + 1) * b := by push_cast; rw [Int.add_mul ((i : Int) + 1) 1 b]; omega
    rw [e]
    by_cases hov : ((i : Int) + 1) * b + b ≤ 9223372036854775807
    · rw [w64 (by omega) hov, e2]
      exact ih (i + 1) n (by omega) (by omega)
    · rw [w64_over (by omega) (by omega)]
      have : ¬ (i + 1 < k) := fun h => by
        have := (pk_lt ha hb hk (i + 1)).2 h
        rw [← e2] at this
        omega
      obtain rfl : i + 1 = k := by omega
      obtain ⟨n, rfl⟩ : ∃ n', n = n' + 1 := ⟨n - 1, by omega⟩
      rw [dg10.L0_eq]
      by_cases h : ((i : Int) + 1) * b + b - 18446744073709551616 < a
      · rw [cd h, cnd (by omega)]
      · rw [cnd h]
end

/-- What both tell. -/
def pecksF (a b : Int) : List Int × Int := if a < 1 ∨ b < 1 then ([], 1) else if (a - 1) / b ≥ 1000 then ([], 3) else (pk b ((a - 1) / b).toNat ++ [a], 0)

theorem dg9_eq {a b : Int} (ha : a ≤ 9223372036854775807) (hb : b ≤ 9223372036854775807) : dg9 (a, b, ()) = some (pecksF a b) := by
  unfold dg9 pecksF
  rw [dg9.eq]
  by_cases h1 : a < 1
  · rw [cd h1, if_pos (.inl h1)]
  by_cases h2 : b < 1
  · rw [cnd h1, cd h2, if_pos (.inr h2)]
  rw [cnd h1, cnd h2, if_neg (by omega), show (b == 0) = false by simp; omega, w64 (n := a - 1) (by omega) (by omega), quo64 (x := a - 1) (by omega) (by omega) (by omega)]
  simp only [cond_false]
  by_cases h3 : (a - 1) / b ≥ 1000
  · rw [cd h3, if_pos h3]
  rw [cnd h3, if_neg h3]
  have h0 : 0 ≤ (a - 1) / b := Int.ediv_nonneg (by omega) (by omega)
  have := L9 (a := a) (b := b) (k := ((a - 1) / b).toNat) (by omega) ha (by omega) hb (by omega) (by omega) _ 0 BIG (by rw [Nat.zero_add]) (by unfold BIG; omega)
  rw [show pk b 0 = [] from rfl, show (((0 : Nat) : Int) + 1) * b = b by simp] at this
  rw [this, dg9.S0_eq, cd (by simp [pk_length, most]; omega)]

theorem dg10_eq {a b : Int} (ha : a ≤ 9223372036854775807) (hb : b ≤ 9223372036854775807) : dg10 (a, b, ()) = some (pecksF a b) := by
  unfold dg10 pecksF
  rw [dg10.eq]
  by_cases h1 : a < 1
  · rw [cd (by omega), if_pos (.inl h1)]
  by_cases h2 : b < 1
  · rw [cnd (by omega), cd (by omega), if_pos (.inr h2)]
  rw [cnd (by omega), cnd (by omega), if_neg (by omega), show (b == 0) = false by simp; omega, w64 (n := a - 1) (by omega) (by omega), quo64 (x := a - 1) (by omega) (by omega) (by omega)]
  simp only [cond_false]
  by_cases h3 : (a - 1) / b ≥ 1000
  · rw [cd h3, if_pos h3]
  rw [cnd h3, if_neg h3]
  have h0 : 0 ≤ (a - 1) / b := Int.ediv_nonneg (by omega) (by omega)
  have := L10 (a := a) (b := b) (k := ((a - 1) / b).toNat) (by omega) ha (by omega) hb (by omega) (by omega) _ 0 BIG (by rw [Nat.zero_add]) (by unfold BIG; omega)
  rw [show pk b 0 = [] from rfl, show (((0 : Nat) : Int) + 1) * b = b by simp] at this
  rw [this, dg10.S0_eq, cd (by simp [pk_length, most]; omega)]

theorem L11 (xs : List Int) (hx : xs.length < 1000000000) : ∀ (m i n : Nat), i + m = xs.length → m < n → dg11.L0 BIG n xs xs (xs.length : Int) (i : Int) = some true := by
  intro m
  induction m with
  | zero =>
    intro i n him hn
    obtain ⟨n, rfl⟩ : ∃ n', n = n' + 1 := ⟨n - 1, by omega⟩
    rw [dg11.L0_eq, cnd (by omega)]
  | succ m ih =>
    intro i n him hn
    obtain ⟨n, rfl⟩ : ∃ n', n = n' + 1 := ⟨n - 1, by omega⟩
    rw [dg11.L0_eq, cd (by omega), idx_nat, List.getElem?_eq_getElem (by omega)]
    simp only [Option.bind_some, bne_self_eq_false, cond_false]
    rw [w64 (by omega) (by omega), show ((i : Int) + 1) = ((i + 1 : Nat) : Int) by simp]
    exact ih (i + 1) n (by omega) (by omega)

theorem dg11_same (xs : List Int) (hx : xs.length < 1000000000) : dg11 (xs, xs, ()) = some true := by
  unfold dg11
  rw [dg11.eq, bne_self_eq_false, cond_false]
  exact L11 xs hx _ 0 BIG (by rw [Nat.zero_add]) (by unfold BIG; omega)

/-- The law's loop. -/
theorem L3 {a b : Int} (ha : 1 ≤ a) (ha2 : a ≤ 9223372036854775807) (hb : 1 ≤ b) (hb2 : b ≤ 9223372036854775807) {k : Nat} (hk : (k : Int) = (a - 1) / b) (hk2 : k < 1000) :
    ∀ (m i n : Nat), i + m = k → m + 1 < n → dg3.L0 BIG n a b 0 ((i : Int) * b) (pk b k ++ [a]) ((k : Int) + 1) (i : Int) = some true := by
  have hend : ∀ n, 1 < n → dg3.L0 BIG n a b 0 ((k : Int) * b) (pk b k ++ [a]) ((k : Int) + 1) (k : Int) = some true := by
    intro n hn
    obtain ⟨n, rfl⟩ : ∃ n', n = n' + 2 := ⟨n - 2, by omega⟩
    have h1 : (k : Int) * b ≤ a - 1 := by
      rw [hk]; exact Int.ediv_mul_le _ (by omega)
    have h2 : a - 1 < ((k : Int) + 1) * b := by
      rw [hk]; exact Int.lt_ediv_add_one_mul_self _ (by omega)
    have h0 : 0 ≤ (k : Int) * b := Int.mul_nonneg (by omega) (by omega)
    rw [Int.add_mul] at h2
    rw [dg3.L0_eq, cd (by omega), idx_nat, List.getElem?_append_right (by rw [pk_length]; omega), pk_length]
    simp only [Nat.sub_self, List.getElem?_cons_zero, Option.bind_some]
    rw [cnd (by omega), w64 (by omega) (by omega), cnd (by omega), w64 (by omega) (by omega), dg3.L0_eq, cnd (by omega), dg3.S0_eq]
    simp
  intro m
  induction m with
  | zero =>
    intro i n him hn
    obtain rfl : i = k := by omega
    exact hend n (by omega)
  | succ m ih =>
    intro i n him hn
    obtain ⟨n, rfl⟩ : ∃ n', n = n' + 1 := ⟨n - 1, by omega⟩
    have hlt : ((i : Int) + 1) * b < a := (pk_lt ha hb hk i).2 (by omega)
    have h0 : 0 ≤ (i : Int) * b := Int.mul_nonneg (by omega) (by omega)
    rw [dg3.L0_eq, cd (by omega), idx_nat, List.getElem?_append_left (by rw [pk_length]; omega), pk_get _ _ _ (by omega)]
    simp only [Option.bind_some]
    rw [Int.add_mul] at hlt ⊢
    rw [cnd (by omega), w64 (by omega) (by omega), cnd (by omega), w64 (by omega) (by omega)]
    have := ih (i + 1) n (by omega) (by omega)
    rw [show (((i + 1 : Nat) : Int)) * b = (i : Int) * b + 1 * b by push_cast; rw [Int.add_mul], show ((i + 1 : Nat) : Int) = (i : Int) + 1 by simp] at this
    exact this

theorem dg3_ab (a b : Int) (h1 : -9223372036854775808 ≤ a ∧ a ≤ 9223372036854775807) (h2 : -9223372036854775808 ≤ b ∧ b ≤ 9223372036854775807) : dg3.N BIG (a, b, ()) = some true := by
  rw [dg3.eq, awake_ok, dg9_eq h1.2 h2.2, dg10_eq h1.2 h2.2]
  simp only [Option.bind_some, Bool.not_true, cond_false, bne_self_eq_false]
  unfold pecksF
  by_cases ha : a < 1 ∨ b < 1
  · rw [if_pos ha, dg11_same [] (by simp)]
    simp only [Option.bind_some, Bool.not_true, cond_false]
    obtain ⟨m, hm⟩ := big_gt (n := 0) (by omega)
    conv => lhs; rw [show @dg3.L0 BIG BIG = dg3.L0 BIG (0 + m + 1) by rw [← hm]]
    rw [dg3.L0_eq, cnd (by simp), dg3.S0_eq]
    rfl
  rw [if_neg ha]
  by_cases h3 : (a - 1) / b ≥ 1000
  · rw [if_pos h3, dg11_same [] (by simp)]
    simp only [Option.bind_some, Bool.not_true, cond_false]
    obtain ⟨m, hm⟩ := big_gt (n := 0) (by omega)
    conv => lhs; rw [show @dg3.L0 BIG BIG = dg3.L0 BIG (0 + m + 1) by rw [← hm]]
    rw [dg3.L0_eq, cnd (by simp), dg3.S0_eq]
    rfl
  have h0 : 0 ≤ (a - 1) / b := Int.ediv_nonneg (by omega) (by omega)
  rw [if_neg h3, dg11_same (pk b ((a - 1) / b).toNat ++ [a]) (by simp [pk_length]; omega)]
  simp only [Option.bind_some, Bool.not_true, cond_false]
  have := L3 (a := a) (b := b) (k := ((a - 1) / b).toNat) (by omega) h1.2 (by omega) h2.2 (by omega) (by omega) _ 0 BIG (by rw [Nat.zero_add]) (by unfold BIG; omega)
  simp only [Int.ofNat_zero, Int.zero_mul, Int.cast_ofNat_Int] at this
  rw [← this]
  congr 1
  simp [pk_length]

theorem dg3_true (x : DenA dg3.A) (h : WfA dg3.A x) : dg3 x = some true := by
  obtain ⟨a, b, u⟩ := x
  exact dg3_ab a b (wf64 h.1) (wf64 h.2.1)
end Go.Ev
