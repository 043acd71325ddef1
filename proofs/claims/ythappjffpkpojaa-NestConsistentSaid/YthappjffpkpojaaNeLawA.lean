/-
  THE PLAIN LAWS of nest, part A: the check on the run itself, copies, equality, what is admissible.
-/
import Derived.Test.YthappjffpkpojaaNgD
import Derived.Test.YthappjffpkpojaaMth
namespace Go.Ev
open Go
set_option linter.unusedVariables false
set_option linter.unusedSimpArgs false
set_option linter.unusedSectionVars false

theorem nAwake : ng7 () = some true := by kernel_rfl

abbrev It := Int × Int × Unit
abbrev Pl := Int × Int × Int × Bool × Unit

theorem succ64 {i : Nat} (h : i < 1000000000) : IntKind.i64.wrap ((i : Int) + 1) = ((i + 1 : Nat) : Int) := by
  rw [w64 (by omega) (by omega)]; omega

/-! ### copies -/
theorem copy10L (xs : List It) (hx : xs.length ≤ 1000) : ∀ (m i n : Nat) (acc : List It), i + m = xs.length → m < n → acc.length ≤ i → ng10.L0 BIG n acc xs (xs.length : Int) (i : Int) = some (acc ++ xs.drop i)
  | 0, i, n + 1, acc, h, _, _ => by
    rw [ng10.L0_eq, cnd (by omega), List.drop_eq_nil_of_le (by omega), List.append_nil]
  | m + 1, i, n + 1, acc, h, hn, ha => by
    rw [ng10.L0_eq, cd (by omega), idx_nat, List.getElem?_eq_getElem (by omega), Option.bind_some, cd (by unfold most; simp only [List.length_cons, List.length_nil]; omega), succ64 (by omega),
      copy10L xs hx m (i + 1) n _ (by omega) (by omega) (by simp; omega), List.drop_eq_getElem_cons (by omega : i < xs.length), List.append_assoc]
    rfl

theorem copy10 (xs : List It) (hx : xs.length ≤ 1000) : ng10 (xs, ()) = some xs := by
  show ng10.N BIG (xs, ()) = _
  rw [ng10.eq, show (0 : Int) = ((0 : Nat) : Int) from rfl, copy10L xs hx xs.length 0 BIG [] (by omega) (by unfold BIG; omega) (by simp)]
  rfl

theorem copy13L (xs : List Pl) (hx : xs.length ≤ 1000) : ∀ (m i n : Nat) (acc : List Pl), i + m = xs.length → m < n → acc.length ≤ i → ng13.L0 BIG n acc xs (xs.length : Int) (i : Int) = some (acc ++ xs.drop i)
  | 0, i, n + 1, acc, h, _, _ => by
    rw [ng13.L0_eq, cnd (by omega), List.drop_eq_nil_of_le (by omega), List.append_nil]
  | m + 1, i, n + 1, acc, h, hn, ha => by
    rw [ng13.L0_eq, cd (by omega), idx_nat, List.getElem?_eq_getElem (by omega), Option.bind_some, cd (by unfold most; simp only [List.length_cons, List.length_nil]; omega), succ64 (by omega),
      copy13L xs hx m (i + 1) n _ (by omega) (by omega) (by simp; omega), List.drop_eq_getElem_cons (by omega : i < xs.length), List.append_assoc]
    rfl

theorem copy13 (xs : List Pl) (hx : xs.length ≤ 1000) : ng13 (xs, ()) = some xs := by
  show ng13.N BIG (xs, ()) = _
  rw [ng13.eq, show (0 : Int) = ((0 : Nat) : Int) from rfl, copy13L xs hx xs.length 0 BIG [] (by omega) (by unfold BIG; omega) (by simp)]
  rfl

theorem copy17L (xs : List Pl) (hx : xs.length ≤ 1000) : ∀ (m i n : Nat) (acc : List Pl), i + m = xs.length → m < n → acc.length ≤ i → ng17.L0 BIG n acc xs (xs.length : Int) (i : Int) = some (acc ++ xs.drop i)
  | 0, i, n + 1, acc, h, _, _ => by
    rw [ng17.L0_eq, cnd (by omega), List.drop_eq_nil_of_le (by omega), List.append_nil]
  | m + 1, i, n + 1, acc, h, hn, ha => by
    rw [ng17.L0_eq, cd (by omega), idx_nat, List.getElem?_eq_getElem (by omega), Option.bind_some, cd (by unfold most; simp only [List.length_cons, List.length_nil]; omega), succ64 (by omega),
      copy17L xs hx m (i + 1) n _ (by omega) (by omega) (by simp; omega), List.drop_eq_getElem_cons (by omega : i < xs.length), List.append_assoc]
    rfl

theorem copy17 (xs : List Pl) (hx : xs.length ≤ 1000) : ng17 (xs, ()) = some xs := by
  show ng17.N BIG (xs, ()) = _
  rw [ng17.eq, show (0 : Int) = ((0 : Nat) : Int) from rfl, copy17L xs hx xs.length 0 BIG [] (by omega) (by unfold BIG; omega) (by simp)]
  rfl

/-! ### equality -/
theorem eqD_refl : ∀ (t : Ty) (x : t.den), t.flat = true → eqD t x x = true
  | .int _, x, _ => by simp [eqD]
  | .bool, x, _ => by simp [eqD]
  | .str, x, _ => by simp [eqD]
  | .sl _, _, h => by simp [Ty.flat] at h
  | .unit, _, _ => rfl
  | .pair a b, x, h => by
    simp only [Ty.flat, Bool.and_eq_true] at h
    simp [eqD, eqD_refl a x.1 h.1, eqD_refl b x.2 h.2]

theorem same12L (xs : List Pl) (hx : xs.length ≤ 1000) : ∀ (m i n : Nat), i + m = xs.length → m < n → ng12.L0 BIG n xs xs (xs.length : Int) (i : Int) = some true
  | 0, i, n + 1, h, _ => by rw [ng12.L0_eq, cnd (by omega)]
  | m + 1, i, n + 1, h, hn => by
    rw [ng12.L0_eq, cd (by omega), idx_nat, List.getElem?_eq_getElem (by omega), Option.bind_some, Option.bind_some, eqD_refl _ _ (by rfl)]
    simp only [Bool.not_true, cond_false]
    rw [succ64 (by omega), same12L xs hx m (i + 1) n (by omega) (by omega)]

theorem same12 (xs : List Pl) (hx : xs.length ≤ 1000) : ng12 (xs, xs, ()) = some true := by
  show ng12.N BIG (xs, xs, ()) = _
  rw [ng12.eq, show (0 : Int) = ((0 : Nat) : Int) from rfl, same12L xs hx xs.length 0 BIG (by omega) (by unfold BIG; omega)]
  simp

theorem same15L (xs : List It) (hx : xs.length ≤ 1000) : ∀ (m i n : Nat), i + m = xs.length → m < n → ng15.L0 BIG n xs xs (xs.length : Int) (i : Int) = some true
  | 0, i, n + 1, h, _ => by rw [ng15.L0_eq, cnd (by omega)]
  | m + 1, i, n + 1, h, hn => by
    rw [ng15.L0_eq, cd (by omega), idx_nat, List.getElem?_eq_getElem (by omega), Option.bind_some, Option.bind_some, eqD_refl _ _ (by rfl)]
    simp only [Bool.not_true, cond_false]
    rw [succ64 (by omega), same15L xs hx m (i + 1) n (by omega) (by omega)]

theorem same15 (xs : List It) (hx : xs.length ≤ 1000) : ng15 (xs, xs, ()) = some true := by
  show ng15.N BIG (xs, xs, ()) = _
  rw [ng15.eq, show (0 : Int) = ((0 : Nat) : Int) from rfl, same15L xs hx xs.length 0 BIG (by omega) (by unfold BIG; omega)]
  simp

theorem same14L (xs : List Int) (hx : xs.length ≤ 1000) : ∀ (m i n : Nat), i + m = xs.length → m < n → ng14.L0 BIG n xs xs (xs.length : Int) (i : Int) = some true
  | 0, i, n + 1, h, _ => by rw [ng14.L0_eq, cnd (by omega)]
  | m + 1, i, n + 1, h, hn => by
    rw [ng14.L0_eq, cd (by omega), idx_nat, List.getElem?_eq_getElem (by omega), Option.bind_some, Option.bind_some]
    simp only [bne_self_eq_false, cond_false]
    rw [succ64 (by omega), same14L xs hx m (i + 1) n (by omega) (by omega)]

theorem same14 (xs : List Int) (hx : xs.length ≤ 1000) : ng14 (xs, xs, ()) = some true := by
  show ng14.N BIG (xs, xs, ()) = _
  rw [ng14.eq, show (0 : Int) = ((0 : Nat) : Int) from rfl, same14L xs hx xs.length 0 BIG (by omega) (by unfold BIG; omega)]
  simp

/-! ### what is admissible -/
def okL (a : Int) : Bool := decide (1 ≤ a) && decide (a ≤ 10000000)
def okI (it : It) : Bool := okL it.1 && okL it.2.1

theorem okL_iff {a : Int} : okL a = true ↔ 1 ≤ a ∧ a ≤ 10000000 := by simp [okL]

theorem ng43_eq (a : Int) : ng43 (a, ()) = some (okL a) := by
  show ng43.N BIG (a, ()) = _
  rw [ng43.eq]
  unfold okL
  by_cases h : 1 ≤ a <;> simp [h]

theorem ng40_eq (a : Int) : ng40 (a, ()) = some (okL a) := by
  show ng40.N BIG (a, ()) = _
  rw [ng40.eq]
  unfold okL
  by_cases h : 1 ≤ a <;> simp [h]

theorem ng45_eq (it : It) : ng45 (it, ()) = some (!okI it) := by
  show ng45.N BIG (it, ()) = _
  rw [ng45.eq, ng43_eq, ng43_eq]
  unfold okI
  cases okL it.1 <;> cases okL it.2.1 <;> rfl

theorem ng50L (xs : List It) (hx : xs.length ≤ 1000) : ∀ (m i n : Nat), i + m = xs.length → m < n → ∃ r, ng50_45.L0 BIG n xs (xs.length : Int) (i : Int) = some r ∧ decide (r ≥ 0) = !(xs.drop i).all okI
  | 0, i, n + 1, h, _ => ⟨-1, by rw [ng50_45.L0_eq, cnd (by omega)], by rw [List.drop_eq_nil_of_le (by omega)]; rfl⟩
  | m + 1, i, n + 1, h, hn => by
    rw [ng50_45.L0_eq, cd (by omega), idx_nat, List.getElem?_eq_getElem (by omega), Option.bind_some, ng45_eq, Option.bind_some, List.drop_eq_getElem_cons (by omega : i < xs.length), List.all_cons]
    cases hk : okI xs[i] with
    | false =>
      refine ⟨(i : Int), rfl, ?_⟩
      simp
    | true =>
      simp only [Bool.not_true, cond_false, Bool.true_and]
      rw [succ64 (by omega)]
      exact ng50L xs hx m (i + 1) n (by omega) (by omega)

theorem ng44_eq (xs : List It) (hx : xs.length ≤ 1000) : ng44_45 (xs, (), ()) = some (!xs.all okI) := by
  show ng44_45.N BIG (xs, (), ()) = _
  rw [ng44_45.eq]
  obtain ⟨r, h1, h2⟩ := ng50L xs hx xs.length 0 BIG (by omega) (by unfold BIG; omega)
  have : ng50_45 (xs, (), ()) = some r := by
    show ng50_45.N BIG (xs, (), ()) = _
    rw [ng50_45.eq]; exact h1
  rw [this, Option.bind_some, h2]
  rfl

def admB (W H g : Int) (items : List It) : Bool := okL W && okL H && decide (0 ≤ g) && decide (g ≤ 10000000) && decide (items.length ≤ 50) && items.all okI

theorem ng28_eq (W H g : Int) (items : List It) (hi : items.length ≤ 1000) : ng28 (W, H, g, items, ()) = some (admB W H g items) := by
  show ng28.N BIG (W, H, g, items, ()) = _
  rw [ng28.eq, ng43_eq, Option.bind_some, ng43_eq, ng44_eq items hi]
  unfold admB
  cases okL W with
  | false => rfl
  | true =>
    cases okL H with
    | false => rfl
    | true =>
      simp only [Bool.not_true, cond_false, Option.bind_some, Bool.true_and]
      by_cases h1 : g < 0
      · rw [cd h1, decide_eq_false (show ¬ 0 ≤ g by omega)]; rfl
      · rw [cnd h1, decide_eq_true (show 0 ≤ g by omega)]
        by_cases h2 : g > 10000000
        · rw [cd h2, decide_eq_false (show ¬ g ≤ 10000000 by omega)]; rfl
        · rw [cnd h2, decide_eq_true (show g ≤ 10000000 by omega)]
          by_cases h3 : (items.length : Int) > 50
          · rw [cd h3, decide_eq_false (show ¬ items.length ≤ 50 by omega)]; rfl
          · rw [cnd h3, decide_eq_true (show items.length ≤ 50 by omega)]
            simp

theorem ng23L (xs : List It) (hx : xs.length ≤ 1000) : ∀ (m i n : Nat), i + m = xs.length → m < n → ng23.L0 BIG n xs (i : Int) = some ((xs.drop i).all okI)
  | 0, i, n + 1, h, _ => by rw [ng23.L0_eq, cnd (by omega), List.drop_eq_nil_of_le (by omega)]; rfl
  | m + 1, i, n + 1, h, hn => by
    rw [ng23.L0_eq, cd (by omega), idx_nat, List.getElem?_eq_getElem (by omega), Option.bind_some, ng40_eq, Option.bind_some, Option.bind_some, ng40_eq, Option.bind_some, succ64 (by omega),
      ng23L xs hx m (i + 1) n (by omega) (by omega), List.drop_eq_getElem_cons (by omega : i < xs.length), List.all_cons]
    unfold okI
    cases okL xs[i].1 <;> cases okL xs[i].2.1 <;> rfl

theorem ng23_eq (W H g : Int) (items : List It) (hi : items.length ≤ 1000) : ng23 (W, H, g, items, ()) = some (admB W H g items) := by
  show ng23.N BIG (W, H, g, items, ()) = _
  rw [ng23.eq, ng40_eq, Option.bind_some, ng40_eq, show (0 : Int) = ((0 : Nat) : Int) from rfl, ng23L items hi items.length 0 BIG (by omega) (by unfold BIG; omega)]
  unfold admB
  cases okL W with
  | false => rfl
  | true =>
    cases okL H with
    | false => rfl
    | true =>
      simp only [Bool.not_true, cond_false, Option.bind_some, Bool.true_and]
      by_cases h1 : g < 0
      · rw [cd (by omega), decide_eq_false (show ¬ 0 ≤ g by omega)]; rfl
      · rw [cnd (by omega), decide_eq_true (show 0 ≤ g by omega)]
        by_cases h2 : g > 10000000
        · rw [cd h2, decide_eq_false (show ¬ g ≤ 10000000 by omega)]; rfl
        · rw [cnd h2, decide_eq_true (show g ≤ 10000000 by omega)]
          by_cases h3 : (items.length : Int) > 50
          · rw [cd h3, decide_eq_false (show ¬ items.length ≤ 50 by omega)]; rfl
          · rw [cnd h3, decide_eq_true (show items.length ≤ 50 by omega)]
            simp
end Go.Ev
