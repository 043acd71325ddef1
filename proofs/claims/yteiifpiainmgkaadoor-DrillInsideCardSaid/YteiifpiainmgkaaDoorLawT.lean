/-
  Tools: both texts accept the same tools; what they tell of ranges.
-/
import Derived.Test.YteiifpiainmgkaaDoorGenD
import Derived.Test.YteiifpiainmgkaaDoorLawA
namespace Go.Ev
open Go Go.Proofs
set_option linter.unusedSimpArgs false
set_option linter.unusedSectionVars false
set_option linter.unusedVariables false

theorem dec_iff {p q : Prop} [Decidable p] [Decidable q] (h : p ↔ q) : decide p = decide q := decide_eq_decide.2 h
theorem sdec {p q : Prop} [Decidable p] [Decidable q] (h : p ↔ q) : some (decide p) = some (decide q) := by rw [dec_iff h]
theorem sfal {q : Prop} [Decidable q] (h : ¬ q) : some false = some (decide q) := by rw [decide_eq_false h]
theorem stru {q : Prop} [Decidable q] (h : q) : some true = some (decide q) := by rw [decide_eq_true h]

def LenOk (a : Int) : Prop := 1 ≤ a ∧ a ≤ 10000000
instance (a : Int) : Decidable (LenOk a) := by unfold LenOk; infer_instance
def InOk (a : Int) : Prop := -10000000 ≤ a ∧ a ≤ 10000000
instance (a : Int) : Decidable (InOk a) := by unfold InOk; infer_instance

theorem dg39_eq (a : Int) : dg39 (a, ()) = some (decide (LenOk a)) := by
  unfold dg39
  rw [dg39.eq]
  by_cases h : a ≥ 1
  · rw [cd h]; exact sdec (by simp only [LenOk, InOk]; omega)
  · rw [cnd h]; exact sfal (by simp only [LenOk, InOk]; omega)

theorem dg31_eq (a : Int) : dg31 (a, ()) = some (decide (LenOk a)) := by
  unfold dg31
  rw [dg31.eq]
  by_cases h : a ≥ 1
  · rw [cd h]; exact sdec (by simp only [LenOk, InOk]; omega)
  · rw [cnd h]; exact sfal (by simp only [LenOk, InOk]; omega)

theorem dg27_eq (a : Int) : dg27 (a, ()) = some (decide (InOk a)) := by
  unfold dg27
  rw [dg27.eq]
  by_cases h : a ≥ -10000000
  · rw [cd h]; exact sdec (by simp only [LenOk, InOk]; omega)
  · rw [cnd h]; exact sfal (by simp only [LenOk, InOk]; omega)

theorem dg30_eq (a : Int) : dg30 (a, ()) = some (!decide (InOk a)) := by
  unfold dg30
  rw [dg30.eq]
  by_cases h : a > 10000000
  · rw [cd h, decide_eq_false (by simp only [InOk]; omega)]; rfl
  · rw [cnd h, ← decide_not]; exact sdec (by simp only [LenOk, InOk]; omega)

/-- A tool as the reference has it. -/
structure GoodT (num kind rad flute len step feed plunge : Int) : Prop where
  hnum : 1 ≤ num ∧ num ≤ 9999
  hkind : 1 ≤ kind ∧ kind ≤ 4
  hrad : LenOk rad
  hflute : LenOk flute
  hstep : LenOk step
  hfeed : LenOk feed
  hplunge : LenOk plunge
  hlen : rad ≤ len ∧ len ≤ 10000000
  hfs : step ≤ flute

theorem goodT_iff (num kind rad flute len step feed plunge : Int) : GoodT num kind rad flute len step feed plunge ↔
    (1 ≤ num ∧ num ≤ 9999) ∧ (1 ≤ kind ∧ kind ≤ 4) ∧ LenOk rad ∧ LenOk flute ∧ LenOk step ∧ LenOk feed ∧ LenOk plunge ∧ (rad ≤ len ∧ len ≤ 10000000) ∧ step ≤ flute :=
  ⟨fun ⟨a, b, c, d, e, f, g, h, i⟩ => ⟨a, b, c, d, e, f, g, h, i⟩, fun ⟨a, b, c, d, e, f, g, h, i⟩ => ⟨a, b, c, d, e, f, g, h, i⟩⟩
instance (num kind rad flute len step feed plunge : Int) : Decidable (GoodT num kind rad flute len step feed plunge) := decidable_of_iff _ (goodT_iff num kind rad flute len step feed plunge).symm

section
variable (num kind rad flute len step feed plunge : Int)

theorem dg18_eq : dg18 ((num, kind, rad, flute, len, step, feed, plunge, ()), ()) = some (decide (GoodT num kind rad flute len step feed plunge)) := by
  unfold dg18
  rw [dg18.eq]
  rw [dg31_eq rad, dg31_eq flute, dg31_eq step, dg31_eq feed, dg31_eq plunge]
  simp only [Option.bind_some]
  by_cases h1 : num ≥ 1
  case neg => rw [cnd h1]; exact sfal fun h => h1 h.hnum.1
  rw [cd h1]
  by_cases h2 : num ≤ 9999
  case neg => rw [cnd h2]; exact sfal fun h => h2 h.hnum.2
  rw [cd h2]
  by_cases h3 : kind ≥ 1
  case neg => rw [cnd h3]; exact sfal fun h => h3 h.hkind.1
  rw [cd h3]
  by_cases h4 : kind ≤ 4
  case neg => rw [cnd h4]; exact sfal fun h => h4 h.hkind.2
  rw [cd h4]
  by_cases h5 : LenOk rad
  case neg => rw [cnd h5]; exact sfal fun h => h5 h.hrad
  rw [cd h5]
  by_cases h6 : LenOk flute
  case neg => rw [cnd h6]; exact sfal fun h => h6 h.hflute
  rw [cd h6]
  by_cases h7 : LenOk step
  case neg => rw [cnd h7]; exact sfal fun h => h7 h.hstep
  rw [cd h7]
  by_cases h8 : LenOk feed
  case neg => rw [cnd h8]; exact sfal fun h => h8 h.hfeed
  rw [cd h8]
  by_cases h9 : LenOk plunge
  case neg => rw [cnd h9]; exact sfal fun h => h9 h.hplunge
  rw [cd h9]
  by_cases h10 : len ≥ rad
  case neg => rw [cnd h10]; exact sfal fun h => h10 h.hlen.1
  rw [cd h10]
  by_cases h11 : len ≤ 10000000
  case neg => rw [cnd h11]; exact sfal fun h => h11 h.hlen.2
  rw [cd h11]
  exact sdec ⟨fun h => ⟨⟨h1, h2⟩, ⟨h3, h4⟩, h5, h6, h7, h8, h9, ⟨h10, h11⟩, h⟩, fun h => h.hfs⟩

theorem kind_some (k : Int) : (ByteArray.toList ⟨(kindText k).toArray⟩ == ByteArray.toList (⟨#[]⟩ : ByteArray)) = !decide (1 ≤ k ∧ k ≤ 4) := by
  by_cases h1 : k = 1
  · subst h1; kernel_rfl
  by_cases h2 : k = 2
  · subst h2; kernel_rfl
  by_cases h3 : k = 3
  · subst h3; kernel_rfl
  by_cases h4 : k = 4
  · subst h4; kernel_rfl
  have hk : kindText k = [] := by
    unfold kindText
    rw [show (k == 1) = false by simpa using h1, show (k == 2) = false by simpa using h2, show (k == 3) = false by simpa using h3, show (k == 4) = false by simpa using h4]
    rfl
  rw [hk, decide_eq_false (show ¬ (1 ≤ k ∧ k ≤ 4) by omega), beq_self_eq_true]
  rfl

theorem dg25_loop (b : Ty.den dY32) (xs : List Int) (hx : xs.length < 1000) : ∀ (m i n : Nat), i + m = xs.length → m < n →
    dg25.L0 BIG n xs (xs.length : Int) (i : Int) b = bif (xs.drop i).all fun x => decide (LenOk x) then dg25.S0 BIG b else some 1 := by
  intro m
  induction m with
  | zero =>
    intro i n him hn
    obtain ⟨n, rfl⟩ : ∃ n', n = n' + 1 := ⟨n - 1, by omega⟩
    rw [dg25.L0_eq, cnd (by omega), List.drop_eq_nil_of_le (by omega), List.all_nil, cond_true]
  | succ m ih =>
    intro i n him hn
    obtain ⟨n, rfl⟩ : ∃ n', n = n' + 1 := ⟨n - 1, by omega⟩
    rw [dg25.L0_eq, cd (by omega), idx_nat, List.getElem?_eq_getElem (by omega), List.drop_eq_getElem_cons (by omega)]
    rw [Option.bind_some, dg39_eq, List.all_cons]
    simp only [Option.bind_some]
    by_cases h : LenOk xs[i]
    · rw [decide_eq_true h]
      simp only [Bool.not_true, cond_false, Bool.true_and]
      rw [w64 (by omega) (by omega), show ((i : Int) + 1) = ((i + 1 : Nat) : Int) by simp]
      exact ih (i + 1) n (by omega) (by omega)
    · rw [decide_eq_false h]
      simp only [Bool.not_false, cond_true, Bool.false_and, cond_false]

theorem dg25_eq : dg25 ((num, kind, rad, flute, len, step, feed, plunge, ()), ()) = some (if GoodT num kind rad flute len step feed plunge then 0 else 1) := by
  unfold dg25
  rw [dg25.eq]
  by_cases h1 : num < 1
  · rw [cd h1, if_neg fun h => absurd h.hnum.1 (by omega)]
  rw [cnd h1]
  by_cases h2 : num > 9999
  · rw [cd h2, if_neg fun h => absurd h.hnum.2 (by omega)]
  rw [cnd h2]
  show Option.bind (dg38 (kind, ())) _ = _
  rw [show dg38 (kind, ()) = some ⟨(kindText kind).toArray⟩ from rfl]
  simp only [Option.bind_some]
  rw [kind_some]
  by_cases h3 : 1 ≤ kind ∧ kind ≤ 4
  case neg =>
    rw [decide_eq_false h3, if_neg fun h => h3 h.hkind]
    simp only [Bool.not_false, cond_true]
  rw [decide_eq_true h3]
  simp only [Bool.not_true, cond_false]
  have := dg25_loop (num, kind, rad, flute, len, step, feed, plunge, ()) [rad, flute, len, step, feed, plunge] (by simp) 6 0 BIG rfl (by unfold BIG; omega)
  rw [show ((0 : Nat) : Int) = 0 from rfl] at this
  rw [this, dg25.S0_eq]
  simp only [List.drop_zero, List.all_cons, List.all_nil, Bool.and_true]
  by_cases h : LenOk rad ∧ LenOk flute ∧ LenOk len ∧ LenOk step ∧ LenOk feed ∧ LenOk plunge
  case neg =>
    rw [if_neg fun g => h ⟨g.hrad, g.hflute, ⟨by have := g.hrad; have := g.hlen; unfold LenOk at *; omega, g.hlen.2⟩, g.hstep, g.hfeed, g.hplunge⟩]
    have : (decide (LenOk rad) && (decide (LenOk flute) && (decide (LenOk len) && (decide (LenOk step) && (decide (LenOk feed) && decide (LenOk plunge)))))) = false := by
      rw [Bool.eq_false_iff]
      intro hc
      simp only [Bool.and_eq_true, decide_eq_true_eq] at hc
      exact h hc
    rw [this, cond_false]
  obtain ⟨h5, h6, h7, h8, h9, h10⟩ := h
  rw [decide_eq_true h5, decide_eq_true h6, decide_eq_true h7, decide_eq_true h8, decide_eq_true h9, decide_eq_true h10]
  simp only [Bool.and_self, cond_true]
  by_cases h11 : len < rad
  · rw [cd h11, if_neg fun g => absurd g.hlen.1 (by omega)]
  rw [cnd h11]
  by_cases h12 : step > flute
  · rw [cd h12, if_neg fun g => absurd g.hfs (by omega)]
  rw [cnd h12, if_pos ⟨⟨by omega, by omega⟩, h3, h5, h6, h8, h9, h10, ⟨by omega, h7.2⟩, by omega⟩]

/-- May a mill mill a hole of this radius? -/
def MillsT (kind rad r : Int) : Prop := kind = 1 ∧ rad < r ∧ IntKind.i64.wrap (r - rad) ≤ rad
instance (kind rad r : Int) : Decidable (MillsT kind rad r) := by unfold MillsT; infer_instance

theorem mills_aux (kind rad r : Int) : (bif (kind == (1 : Int)) then bif (decide (rad < r)) then some (decide ((IntKind.i64.wrap (r - rad)) ≤ rad)) else some false else some false) = some (decide (MillsT kind rad r)) := by
  by_cases h1 : kind = 1
  case neg =>
    rw [show (kind == 1) = false by simpa using h1]
    exact sfal fun h => h1 h.1
  rw [show (kind == 1) = true by simpa using h1]
  simp only [cond_true]
  by_cases h2 : rad < r
  case neg => rw [cnd h2]; exact sfal fun h => h2 h.2.1
  rw [cd h2]
  exact sdec ⟨fun h => ⟨h1, h2, h⟩, fun h => h.2.2⟩

theorem dg26_eq (r : Int) : dg26 ((num, kind, rad, flute, len, step, feed, plunge, ()), r, ()) = some (decide (MillsT kind rad r)) := by
  unfold dg26
  rw [dg26.eq]
  exact mills_aux kind rad r

theorem dg29_eq (r : Int) : dg29 ((num, kind, rad, flute, len, step, feed, plunge, ()), r, ()) = some (decide (MillsT kind rad r)) := by
  unfold dg29
  rw [dg29.eq]
  exact mills_aux kind rad r
end
end Go.Ev
