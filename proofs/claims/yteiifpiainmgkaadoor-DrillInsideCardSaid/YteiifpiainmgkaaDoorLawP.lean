/-
  drill.Peck and its reference: the plain law: both texts give the same moves.
-/
import Derived.Test.YteiifpiainmgkaaDoorLawB
import Derived.Test.YteiifpiainmgkaaDoorGenI
namespace Go.Ev
open Go Go.Proofs
set_option linter.unusedSimpArgs false
set_option linter.unusedSectionVars false
set_option linter.unusedVariables false

/-- Down and up. -/
def peckE (ax ay top plunge d : Int) : List Mv :=
  [((2 : Int), (ax, ay, -d, ()), ((0 : Int), (0 : Int), ()), plunge, ()), ((1 : Int), (ax, ay, top, ()), ((0 : Int), (0 : Int), ()), (0 : Int), ())]

section
variable {ax ay top num kind rad flute len step feed plunge : Int} (xs : List Int) (hx : xs.length ≤ 1001) (hr : ∀ x ∈ xs, 0 ≤ x ∧ x ≤ 9223372036854775807)

include hx hr in
theorem L19 : ∀ (m i fuel : Nat) (acc : List Mv), i + m = xs.length → m < fuel → acc.length = 2 * i →
    dg19.L0 BIG fuel top acc xs (xs.length : Int) (i : Int) (ax, ay, ()) (num, kind, rad, flute, len, step, feed, plunge, ()) = some (acc ++ (xs.drop i).flatMap (peckE ax ay top plunge), 0) := by
  intro m
  induction m with
  | zero =>
    intro i fuel acc him hf hl
    obtain ⟨fuel, rfl⟩ : ∃ n', fuel = n' + 1 := ⟨fuel - 1, by omega⟩
    rw [dg19.L0_eq, cnd (by omega), List.drop_eq_nil_of_le (by omega), List.flatMap_nil, List.append_nil]
    exact dg19.S0_eq acc
  | succ m ih =>
    intro i fuel acc him hf hl
    obtain ⟨fuel, rfl⟩ : ∃ n', fuel = n' + 1 := ⟨fuel - 1, by omega⟩
    have hb := hr xs[i] (List.getElem_mem (by omega))
    rw [dg19.L0_eq, cd (by omega), idx_nat, List.getElem?_eq_getElem (by omega), List.drop_eq_getElem_cons (by omega)]
    simp only [Option.bind_some]
    rw [cd (by simp [most]; omega), w64 (n := 0 - xs[i]) (by omega) (by omega), w64 (n := (i : Int) + 1) (by omega) (by omega), show ((i : Int) + 1) = ((i + 1 : Nat) : Int) by simp]
    have := ih (i + 1) fuel (acc ++ peckE ax ay top plunge xs[i]) (by omega) (by omega) (by simp [peckE]; omega)
    rw [List.append_assoc, ← List.flatMap_cons] at this
    rw [show (0 - xs[i]) = -xs[i] by omega]
    exact this

include hx hr in
theorem L20 : ∀ (m i fuel : Nat) (acc : List Mv), i + m = xs.length → m < fuel → acc.length = 2 * i →
    dg20.L0 BIG fuel top xs acc (i : Int) (ax, ay, ()) (num, kind, rad, flute, len, step, feed, plunge, ()) = some (acc ++ (xs.drop i).flatMap (peckE ax ay top plunge), 0) := by
  intro m
  induction m with
  | zero =>
    intro i fuel acc him hf hl
    obtain ⟨fuel, rfl⟩ : ∃ n', fuel = n' + 1 := ⟨fuel - 1, by omega⟩
    rw [dg20.L0_eq, cnd (by omega), List.drop_eq_nil_of_le (by omega), List.flatMap_nil, List.append_nil]
    exact dg20.S0_eq acc
  | succ m ih =>
    intro i fuel acc him hf hl
    obtain ⟨fuel, rfl⟩ : ∃ n', fuel = n' + 1 := ⟨fuel - 1, by omega⟩
    have hb := hr xs[i] (List.getElem_mem (by omega))
    rw [dg20.L0_eq, cd (by omega), idx_nat, List.getElem?_eq_getElem (by omega), List.drop_eq_getElem_cons (by omega)]
    simp only [Option.bind_some]
    rw [cd (by simp [most]; omega), cd (by simp [most]; omega), w64 (n := 0 - xs[i]) (by omega) (by omega), w64 (n := (i : Int) + 1) (by omega) (by omega), show ((i : Int) + 1) = ((i + 1 : Nat) : Int) by simp]
    have := ih (i + 1) fuel (acc ++ peckE ax ay top plunge xs[i]) (by omega) (by omega) (by simp [peckE]; omega)
    rw [List.append_assoc, ← List.flatMap_cons] at this
    rw [show (0 - xs[i]) = -xs[i] by omega, List.append_assoc]
    exact this
end

/-- What both texts tell. -/
def peckF (ax ay top D peck num kind rad flute len step feed plunge : Int) : List Mv × Int :=
  if ¬ GoodT num kind rad flute len step feed plunge ∨ kind ≠ 2 ∨ top < 0 ∨ D < 1 ∨ peck < 1 then ([], 1)
  else if flute < D then ([], 16)
  else if ¬ (InOk ax ∧ InOk ay ∧ InOk top ∧ InOk D) then ([], 11)
  else if (pecksF D peck).2 ≠ 0 then ([], (pecksF D peck).2)
  else ((pecksF D peck).1.flatMap (peckE ax ay top plunge), 0)

theorem pk_bound {a b : Int} (ha : 1 ≤ a) (hb : 1 ≤ b) : ∀ i : Nat, (i : Int) ≤ (a - 1) / b → ∀ x ∈ pk b i, 1 ≤ x ∧ x < a
  | 0, _, x, hx => by simp [pk] at hx
  | i + 1, h, x, hx => by
    rw [pk, List.mem_append] at hx
    rcases hx with hx | hx
    · exact pk_bound ha hb i (by omega) x hx
    · simp only [List.mem_cons, List.not_mem_nil, or_false] at hx
      subst hx
      have hpos : 0 < ((i : Int) + 1) * b := Int.mul_pos (by omega) (by omega)
      have := (Int.le_ediv_iff_mul_le (a := ((i : Int) + 1)) (b := a - 1) (c := b) (by omega)).1 (by omega)
      exact ⟨by omega, by omega⟩

theorem pecksF_facts (a b : Int) (ha : a ≤ 9223372036854775807) : (pecksF a b).1.length ≤ 1001 ∧ ∀ x ∈ (pecksF a b).1, 1 ≤ x ∧ x ≤ a := by
  unfold pecksF
  split
  · simp
  · split
    · simp
    · rename_i h1 h2
      have h0 : 0 ≤ (a - 1) / b := Int.ediv_nonneg (by omega) (by omega)
      refine ⟨by simp [pk_length]; omega, fun x hx => ?_⟩
      rw [List.mem_append] at hx
      rcases hx with hx | hx
      · have := pk_bound (a := a) (b := b) (by omega) (by omega) _ (by omega) x hx
        omega
      · simp only [List.mem_cons, List.not_mem_nil, or_false] at hx
        omega

section
variable {ax ay top D peck num kind rad flute len step feed plunge : Int} (hD : D ≤ 9223372036854775807) (hp : peck ≤ 9223372036854775807)

include hD hp in
theorem dg19_eq : dg19 ((ax, ay, ()), top, D, peck, (num, kind, rad, flute, len, step, feed, plunge, ()), ()) = some (peckF ax ay top D peck num kind rad flute len step feed plunge) := by
  unfold dg19 peckF
  rw [dg19.eq, dg25_eq]
  simp only [Option.bind_some]
  by_cases hg : GoodT num kind rad flute len step feed plunge
  case neg => rw [if_neg hg, if_pos (.inl hg)]; rfl
  rw [if_pos hg, bne_self_eq_false, cond_false]
  by_cases hk : kind = 2
  case neg => rw [show (kind != 2) = true by simpa using hk, if_pos (.inr (.inl hk)), cond_true]
  rw [show (kind != 2) = false by simpa using hk, cond_false]
  by_cases ht : top < 0
  · rw [cd ht, if_pos (.inr (.inr (.inl ht)))]
  rw [cnd ht]
  by_cases hr1 : D < 1
  · rw [cd hr1, if_pos (.inr (.inr (.inr (.inl hr1))))]
  rw [cnd hr1]
  by_cases hd1 : peck < 1
  · rw [cd hd1, if_pos (.inr (.inr (.inr (.inr hd1))))]
  rw [cnd hd1, if_neg (fun h => by rcases h with h | h | h | h | h <;> first | exact h hg | exact h hk | omega)]
  by_cases hf : flute < D
  · rw [cd hf, if_pos hf]
  rw [cnd hf, if_neg hf, dg27_eq, dg27_eq, dg27_eq, dg27_eq, dg9_eq hD hp]
  simp only [Option.bind_some]
  rw [four12]
  by_cases hi : InOk ax ∧ InOk ay ∧ InOk top ∧ InOk D
  case neg => rw [if_pos hi, if_pos hi]
  rw [if_neg (c := ¬(InOk ax ∧ InOk ay ∧ InOk top ∧ InOk D)) (fun h => h hi), if_neg (c := ¬(InOk ax ∧ InOk ay ∧ InOk top ∧ InOk D)) (fun h => h hi)]
  by_cases he : (pecksF D peck).2 = 0
  case neg => rw [if_pos he, show ((pecksF D peck).2 != 0) = true by simpa using he, cond_true]
  rw [if_neg (fun h => h he), he, bne_self_eq_false, cond_false]
  obtain ⟨h1, h2⟩ := pecksF_facts D peck hD
  have := L19 (ax := ax) (ay := ay) (top := top) (num := num) (kind := kind) (rad := rad) (flute := flute) (len := len) (step := step) (feed := feed) (plunge := plunge) _ h1
    (fun x hx => ⟨by have := h2 x hx; omega, by have := h2 x hx; omega⟩) _ 0 BIG [] (by rw [Nat.zero_add]) (by unfold BIG; omega) rfl
  rw [show ((0 : Nat) : Int) = 0 from rfl] at this
  rw [this]
  simp

include hD hp in
theorem dg20_eq : dg20 ((ax, ay, ()), top, D, peck, (num, kind, rad, flute, len, step, feed, plunge, ()), ()) = some (peckF ax ay top D peck num kind rad flute len step feed plunge) := by
  unfold dg20 peckF
  rw [dg20.eq, dg18_eq]
  simp only [Option.bind_some]
  by_cases hg : GoodT num kind rad flute len step feed plunge
  case neg => rw [decide_eq_false hg, if_pos (.inl hg)]; rfl
  rw [decide_eq_true hg, Bool.not_true, cond_false]
  by_cases hk : kind = 2
  case neg => rw [show (kind != 2) = true by simpa using hk, if_pos (.inr (.inl hk)), cond_true]
  rw [show (kind != 2) = false by simpa using hk, cond_false]
  by_cases ht : top < 0
  · rw [cd ht, if_pos (.inr (.inr (.inl ht)))]
  rw [cnd ht]
  by_cases hr1 : D < 1
  · rw [cd (by omega), if_pos (.inr (.inr (.inr (.inl hr1))))]
  rw [cnd (by omega)]
  by_cases hd1 : peck < 1
  · rw [cd (by omega), if_pos (.inr (.inr (.inr (.inr hd1))))]
  rw [cnd (by omega), if_neg (fun h => by rcases h with h | h | h | h | h <;> first | exact h hg | exact h hk | omega)]
  by_cases hf : flute < D
  · rw [cd hf, if_pos hf]
  rw [cnd hf, if_neg hf, dg30_eq, dg30_eq, dg30_eq, dg30_eq, dg10_eq hD hp]
  simp only [Option.bind_some]
  rw [four12]
  by_cases hi : InOk ax ∧ InOk ay ∧ InOk top ∧ InOk D
  case neg => rw [if_pos hi, if_pos hi]
  rw [if_neg (c := ¬(InOk ax ∧ InOk ay ∧ InOk top ∧ InOk D)) (fun h => h hi), if_neg (c := ¬(InOk ax ∧ InOk ay ∧ InOk top ∧ InOk D)) (fun h => h hi)]
  by_cases he : (pecksF D peck).2 = 0
  case neg => rw [if_pos he, show ((pecksF D peck).2 != 0) = true by simpa using he, cond_true]
  rw [if_neg (fun h => h he), he, bne_self_eq_false, cond_false]
  obtain ⟨h1, h2⟩ := pecksF_facts D peck hD
  have := L20 (ax := ax) (ay := ay) (top := top) (num := num) (kind := kind) (rad := rad) (flute := flute) (len := len) (step := step) (feed := feed) (plunge := plunge) _ h1
    (fun x hx => ⟨by have := h2 x hx; omega, by have := h2 x hx; omega⟩) _ 0 BIG [] (by rw [Nat.zero_add]) (by unfold BIG; omega) rfl
  rw [show ((0 : Nat) : Int) = 0 from rfl] at this
  rw [this]
  simp
end
end Go.Ev
