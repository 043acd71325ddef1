/-
  DrillPeck: the plain law: both texts give the same moves, all of them are valid and on the axis.
-/
import Derived.Test.YteiifpiainmgkaaDoorLawP
import Derived.Test.YteiifpiainmgkaaDoorGenJ
namespace Go.Ev
open Go Go.Proofs
set_option linter.unusedSimpArgs false
set_option linter.unusedSectionVars false
set_option linter.unusedVariables false

theorem u64_wrap_sub {a b : Int} (ha : -9223372036854775808 ≤ a ∧ a ≤ 9223372036854775807) (hb : -9223372036854775808 ≤ b ∧ b ≤ 9223372036854775807) (h : b ≤ a) :
    IntKind.u64.wrap ((IntKind.u64.wrap a) - (IntKind.u64.wrap b)) = a - b := by
  rw [IntKind.wrap_u64, IntKind.wrap_u64, IntKind.wrap_u64]
  omega

theorem dg35_eq {a b : Int} (ha : -9223372036854775808 ≤ a ∧ a ≤ 9223372036854775807) (hb : -9223372036854775808 ≤ b ∧ b ≤ 9223372036854775807) : dg35 (a, b, ()) = some (if a < b then b - a else a - b) := by
  unfold dg35
  rw [dg35.eq, dg35.S0_eq, dg35.S0_eq]
  by_cases h : a < b
  · rw [cd h, if_pos h, u64_wrap_sub hb ha (by omega)]
  · rw [cnd h, if_neg h, u64_wrap_sub ha hb (by omega)]

theorem L21 (xs : List Int) (hx : xs.length < 1000) (hi : ∀ x ∈ xs, InOk x) : ∀ (m i n : Nat), i + m = xs.length → m < n → dg21.L0 BIG n xs (xs.length : Int) (i : Int) = some 0 := by
  intro m
  induction m with
  | zero =>
    intro i n him hn
    obtain ⟨n, rfl⟩ : ∃ n', n = n' + 1 := ⟨n - 1, by omega⟩
    rw [dg21.L0_eq, cnd (by omega)]
  | succ m ih =>
    intro i n him hn
    obtain ⟨n, rfl⟩ : ∃ n', n = n' + 1 := ⟨n - 1, by omega⟩
    have h := hi xs[i] (List.getElem_mem (by omega))
    unfold InOk at h
    rw [dg21.L0_eq, cd (by omega), idx_nat, List.getElem?_eq_getElem (by omega)]
    simp only [Option.bind_some]
    rw [dg35_eq (by omega) (by omega)]
    simp only [Option.bind_some]
    have hle : (if xs[i] < 0 then 0 - xs[i] else xs[i] - 0) ≤ 10000000 := by split <;> omega
    rw [cnd (Int.not_lt.2 hle), w64 (by omega) (by omega), show ((i : Int) + 1) = ((i + 1 : Nat) : Int) by simp]
    exact ih (i + 1) n (by omega) (by omega)

theorem dg21_S0 (xs : List Int) (hx : xs.length < 1000) (hi : ∀ x ∈ xs, InOk x) : dg21.S0 BIG xs = some 0 := by
  rw [dg21.S0_eq]
  exact L21 xs hx hi _ 0 BIG (by rw [Nat.zero_add]) (by unfold BIG; omega)

/-- A straight move in range is valid. -/
theorem dg21_line {fx fy fz k tx ty tz cx cy rate : Int} (hk : (k = 1 ∧ rate = 0) ∨ (k = 2 ∧ rate > 0)) (h1 : InOk fx) (h2 : InOk fy) (h3 : InOk fz) (h4 : InOk tx) (h5 : InOk ty) (h6 : InOk tz) :
    dg21 ((fx, fy, fz, ()), (k, (tx, ty, tz, ()), (cx, cy, ()), rate, ()), ()) = some 0 := by
  have h32 : dg32 ((fx, fy, fz, ()), (k, (tx, ty, tz, ()), (cx, cy, ()), rate, ()), ()) = some true := by
    unfold dg32
    rw [dg32.eq]
    rcases hk with ⟨rfl, rfl⟩ | ⟨rfl, hr⟩
    · rfl
    · rw [show ((2 : Int) == 1) = false from rfl, cond_false, show ((2 : Int) == 2) = true from rfl, cond_true, decide_eq_true hr]
  have h33 : dg33 ((k, (tx, ty, tz, ()), (cx, cy, ()), rate, ()), ()) = some false := by
    unfold dg33
    rw [dg33.eq]
    rcases hk with ⟨rfl, rfl⟩ | ⟨rfl, hr⟩ <;> rfl
  unfold dg21
  rw [dg21.eq, h32, Option.bind_some, Bool.not_true, cond_false, h33, Option.bind_some, cond_false]
  refine dg21_S0 _ (by simp) fun x hx => ?_
  simp only [List.mem_cons, List.not_mem_nil, or_false] at hx
  rcases hx with rfl | rfl | rfl | rfl | rfl | rfl <;> assumption

theorem peck_get (ax ay top plunge : Int) : ∀ (xs : List Int) (i : Nat) (h : i < xs.length), (xs.flatMap (peckE ax ay top plunge))[2 * i]? = some ((2 : Int), (ax, ay, -xs[i], ()), ((0 : Int), (0 : Int), ()), plunge, ()) ∧
    (xs.flatMap (peckE ax ay top plunge))[2 * i + 1]? = some ((1 : Int), (ax, ay, top, ()), ((0 : Int), (0 : Int), ()), (0 : Int), ())
  | x :: r, 0, h => by simp [peckE]
  | x :: r, i + 1, h => by
    have := peck_get ax ay top plunge r i (by simpa using h)
    rw [List.flatMap_cons, show 2 * (i + 1) = 2 * i + 2 by omega, show 2 * i + 2 + 1 = (2 * i + 1) + 2 by omega]
    simpa [peckE] using this

theorem peck_len (ax ay top plunge : Int) (xs : List Int) : (xs.flatMap (peckE ax ay top plunge)).length = 2 * xs.length := by
  induction xs with
  | nil => rfl
  | cons x r ih => rw [List.flatMap_cons, List.length_append, ih]; simp [peckE]; omega

theorem L6 (ax ay top plunge q1 q2 : Int) (xs : List Int) (hx : xs.length ≤ 1001) (h1 : InOk ax) (h2 : InOk ay) (h3 : InOk top) (hp : plunge > 0) (hi : ∀ x ∈ xs, InOk x) : ∀ (m i n : Nat), i + m = xs.length → 2 * m < n →
    dg6.L0 BIG n 0 (xs.flatMap (peckE ax ay top plunge)) ((xs.flatMap (peckE ax ay top plunge)).length : Int) ((2 * i : Nat) : Int) (ax, ay, ()) (top, q1, q2, ()) (ax, ay, top, ()) = some true := by
  intro m
  induction m with
  | zero =>
    intro i n him hn
    obtain ⟨n, rfl⟩ : ∃ n', n = n' + 1 := ⟨n - 1, by omega⟩
    rw [dg6.L0_eq, cnd (by rw [peck_len]; omega), dg6.S0_eq]
    simp
  | succ m ih =>
    intro i n him hn
    obtain ⟨n, rfl⟩ : ∃ n', n = n' + 2 := ⟨n - 2, by omega⟩
    obtain ⟨g1, g2⟩ := peck_get ax ay top plunge xs i (by omega)
    have h := hi xs[i] (List.getElem_mem (by omega))
    have hn : InOk (-xs[i]) := by unfold InOk at h ⊢; omega
    rw [dg6.L0_eq, cd (by rw [peck_len]; omega), idx_nat, g1]
    simp only [Option.bind_some, bne_self_eq_false, cond_false]
    rw [dg21_line (.inr ⟨rfl, hp⟩) h1 h2 h3 h1 h2 hn]
    simp only [Option.bind_some, bne_self_eq_false, cond_false]
    rw [w64 (by omega) (by omega), show (((2 * i : Nat) : Int) + 1) = ((2 * i + 1 : Nat) : Int) by simp, dg6.L0_eq, cd (by rw [peck_len]; omega), idx_nat, g2]
    simp only [Option.bind_some, bne_self_eq_false, cond_false]
    rw [dg21_line (.inl ⟨rfl, rfl⟩) h1 h2 hn h1 h2 h3]
    simp only [Option.bind_some, bne_self_eq_false, cond_false]
    rw [w64 (by omega) (by omega), show (((2 * i + 1 : Nat) : Int) + 1) = ((2 * (i + 1) : Nat) : Int) by push_cast; omega]
    exact ih (i + 1) n (by omega) (by omega)

theorem dg6_ab (ax ay top D peck num kind rad flute len step feed plunge : Int) (hD : D ≤ 9223372036854775807) (hp : peck ≤ 9223372036854775807) :
    dg6.N BIG ((ax, ay, ()), (top, D, peck, ()), (num, kind, rad, flute, len, step, feed, plunge, ()), ()) = some true := by
  rw [dg6.eq, awake_ok, dg19_eq hD hp, dg20_eq hD hp]
  simp only [Option.bind_some, Bool.not_true, cond_false, bne_self_eq_false]
  have hfail : ∀ e : Int, e ≠ 0 → dg6.L0 BIG BIG e [] ((([] : List Mv).length : Nat) : Int) 0 (ax, ay, ()) (top, D, peck, ()) (ax, ay, top, ()) = some true := fun e he => by
    obtain ⟨m, hm⟩ := big_gt (n := 0) (by omega)
    conv => lhs; rw [show @dg6.L0 BIG BIG = dg6.L0 BIG (0 + m + 1) by rw [← hm]]
    rw [dg6.L0_eq, cnd (by simp), dg6.S0_eq, show (e != 0) = true by simpa using he, cond_true]
  have hnil : dg14 (([] : List Mv), ([] : List Mv), ()) = some true := dg14_same [] (by simp)
  unfold peckF
  by_cases c1 : ¬ GoodT num kind rad flute len step feed plunge ∨ kind ≠ 2 ∨ top < 0 ∨ D < 1 ∨ peck < 1
  · rw [if_pos c1, hnil]
    simp only [Option.bind_some, Bool.not_true, cond_false]
    exact hfail 1 (by omega)
  rw [if_neg c1]
  by_cases c2 : flute < D
  · rw [if_pos c2, hnil]
    simp only [Option.bind_some, Bool.not_true, cond_false]
    exact hfail 16 (by omega)
  rw [if_neg c2]
  by_cases c3 : InOk ax ∧ InOk ay ∧ InOk top ∧ InOk D
  case neg =>
    rw [if_pos c3, hnil]
    simp only [Option.bind_some, Bool.not_true, cond_false]
    exact hfail 11 (by omega)
  rw [if_neg (fun h => h c3)]
  obtain ⟨h1, h2⟩ := pecksF_facts D peck hD
  by_cases c4 : (pecksF D peck).2 ≠ 0
  · rw [if_pos c4, hnil]
    simp only [Option.bind_some, Bool.not_true, cond_false]
    exact hfail _ c4
  rw [if_neg c4, dg14_same ((pecksF D peck).1.flatMap (peckE ax ay top plunge)) (by rw [peck_len]; omega)]
  simp only [Option.bind_some, Bool.not_true, cond_false]
  have hg : GoodT num kind rad flute len step feed plunge := Classical.byContradiction fun h => c1 (.inl h)
  have hpl := hg.hplunge
  have hDo := c3.2.2.2
  unfold LenOk at hpl
  unfold InOk at hDo
  have := L6 ax ay top plunge D peck (pecksF D peck).1 h1 c3.1 c3.2.1 c3.2.2.1 (by omega) (fun x hx => by have := h2 x hx; unfold InOk; omega) _ 0 BIG (by rw [Nat.zero_add]) (by unfold BIG; omega)
  exact this

theorem dg6_true (x : DenA dg6.A) (h : WfA dg6.A x) : dg6 x = some true := by
  obtain ⟨⟨ax, ay, _⟩, ⟨top, D, peck, _⟩, ⟨num, kind, rad, flute, len, step, feed, plunge, _⟩, _⟩ := x
  exact dg6_ab ax ay top D peck num kind rad flute len step feed plunge (wf64 h.2.1.2.1).2 (wf64 h.2.1.2.2.1).2
end Go.Ev
