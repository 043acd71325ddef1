/-
  THE PLAIN LAWS of nest, part H: NestConsistent: what was left over fits nowhere (slide it left and down: it comes to a spot).
-/
import Derived.Test.YthappjffpkpojaaNeLawG
namespace Go.Ev
open Go
set_option linter.unusedVariables false
set_option linter.unusedSimpArgs false
set_option linter.unusedSectionVars false

theorem best_below (x : Int) : ∀ l : List Int, (∃ v ∈ l, v ≤ x) → ∃ v ∈ l, v ≤ x ∧ ∀ u ∈ l, u ≤ x → u ≤ v
  | [], h => by obtain ⟨v, hv, _⟩ := h; simp at hv
  | a :: r, h => by
    by_cases hr : ∃ v ∈ r, v ≤ x
    · obtain ⟨v, h1, h2, h3⟩ := best_below x r hr
      by_cases ha : a ≤ x ∧ v < a
      · refine ⟨a, by simp, ha.1, fun u hu hux => ?_⟩
        rcases List.mem_cons.1 hu with rfl | hu
        · exact Int.le_refl _
        · have := h3 u hu hux; omega
      · refine ⟨v, by simp [h1], h2, fun u hu hux => ?_⟩
        rcases List.mem_cons.1 hu with rfl | hu
        · omega
        · exact h3 u hu hux
    · obtain ⟨v, hv, hvx⟩ := h
      rcases List.mem_cons.1 hv with rfl | hv
      · refine ⟨v, by simp, hvx, fun u hu hux => ?_⟩
        rcases List.mem_cons.1 hu with rfl | hu
        · exact Int.le_refl _
        · exact absurd ⟨u, hu, hux⟩ hr
      · exact absurd ⟨v, hv, hvx⟩ hr

section
variable {W H g : Int} {items : List It}

theorem mem_uniq_isort {l : List Int} {a : Int} : a ∈ uniq (isort l) ↔ a ∈ l := by
  rw [uniq_mem (isort_sorted _), (isort_perm _).mem_iff]

theorem apartB_iff {p q : Pl} : apartB g items p q = true ↔ p.2.1 + (szF items p).1 + g ≤ q.2.1 ∨ q.2.1 + (szF items q).1 + g ≤ p.2.1 ∨ p.2.2.1 + (szF items p).2 + g ≤ q.2.2.1 ∨ q.2.2.1 + (szF items q).2 + g ≤ p.2.2.1 := by
  unfold apartB
  simp only [Bool.or_eq_true, decide_eq_true_eq, or_assoc]

theorem slide {a : List Pl} (hv : validB W H g items a = true) {k x y : Int} {r : Bool} (h : tstB W H g items a (k, x, y, r, ()) = true) : ∃ s ∈ spotsF W H g items a, tstB W H g items a (k, s.1, s.2.1, r, ()) = true := by
  unfold tstB at h
  rw [Bool.and_eq_true, List.all_eq_true] at h
  obtain ⟨h1, h2⟩ := h
  obtain ⟨o1, o2, o3, o4⟩ := onB_iff.1 h1
  simp only at o1 o2 o3 o4
  obtain ⟨x', hx1, hx2, hx3⟩ := best_below x (g :: a.map (edX g items)) ⟨g, by simp, o1⟩
  obtain ⟨y', hy1, hy2, hy3⟩ := best_below y (g :: a.map (edY g items)) ⟨g, by simp, o2⟩
  have gx := hx3 g (by simp) o1
  have gy := hy3 g (by simp) o2
  have hsz : szF items ((k, x', y', r, ()) : Pl) = szF items ((k, x, y, r, ()) : Pl) := rfl
  refine ⟨(x', y', ()), ?_, ?_⟩
  · unfold spotsF
    rw [hv]
    simp only [cond_true]
    unfold gridF
    rw [List.mem_flatMap]
    refine ⟨y', mem_uniq_isort.2 hy1, ?_⟩
    rw [List.mem_map]
    exact ⟨x', mem_uniq_isort.2 hx1, rfl⟩
  · unfold tstB
    rw [Bool.and_eq_true, List.all_eq_true]
    refine ⟨onB_iff.2 ⟨gx, gy, ?_, ?_⟩, fun q hq => ?_⟩
    · show x' + (szF items ((k, x', y', r, ()) : Pl)).1 + g ≤ W
      rw [hsz]; omega
    · show y' + (szF items ((k, x', y', r, ()) : Pl)).2 + g ≤ H
      rw [hsz]; omega
    · have hq2 := apartB_iff.1 (h2 q hq)
      simp only at hq2
      refine apartB_iff.2 ?_
      show x' + (szF items ((k, x', y', r, ()) : Pl)).1 + g ≤ q.2.1 ∨ q.2.1 + (szF items q).1 + g ≤ x' ∨ y' + (szF items ((k, x', y', r, ()) : Pl)).2 + g ≤ q.2.2.1 ∨ q.2.2.1 + (szF items q).2 + g ≤ y'
      rw [hsz]
      rcases hq2 with hq2 | hq2 | hq2 | hq2
      · exact .inl (by omega)
      · exact .inr (.inl (hx3 (edX g items q) (List.mem_cons_of_mem _ (List.mem_map.2 ⟨q, hq, rfl⟩)) hq2))
      · exact .inr (.inr (.inl (by omega)))
      · exact .inr (.inr (.inr (hy3 (edY g items q) (List.mem_cons_of_mem _ (List.mem_map.2 ⟨q, hq, rfl⟩)) hq2)))

def Shut (W H g : Int) (items : List It) (a : List Pl) (u : List Int) : Prop := ∀ k ∈ u, ∀ x y r, tstB W H g items a (k, x, y, r, ()) = false

theorem Shut.more {a : List Pl} {u : List Int} (h : Shut W H g items a u) (p : Pl) : Shut W H g items (a ++ [p]) u := fun k hk x y r => by
  have := h k hk x y r
  unfold tstB at *
  rw [List.all_append, ← Bool.and_assoc, this]
  rfl

theorem Shut.skip {a : List Pl} {u : List Int} (h : Shut W H g items a u) (hv : validB W H g items a = true) {i : Int} (hs : (spF W H g items a i).2 = false) : Shut W H g items a (u ++ [i]) := fun k hk x y r => by
  rcases List.mem_append.1 hk with hk | hk
  · exact h k hk x y r
  · simp only [List.mem_singleton] at hk
    subst hk
    cases ht : tstB W H g items a (k, x, y, r, ()) with
    | false => rfl
    | true =>
      obtain ⟨s, hs1, hs2⟩ := slide hv ht
      have := findF_false (p := (spF W H g items a k).1) (by rw [← hs]; rfl : findF (tstB W H g items a) k (spotsF W H g items a) = ((spF W H g items a k).1, false)) s hs1 r
      rw [hs2] at this
      cases this

theorem nestR_shut : ∀ (m i : Nat) (a : List Pl) (u : List Int), i + m ≤ items.length → Inv W H g items i a u → Shut W H g items a u → Shut W H g items (nestR (spF W H g items) m i a u).1 (nestR (spF W H g items) m i a u).2
  | 0, i, a, u, _, hI, h => h
  | m + 1, i, a, u, hl, hI, h => by
    unfold nestR
    cases hs : (spF W H g items a (i : Int)).2 with
    | true => exact nestR_shut m (i + 1) _ u (by omega) (hI.step (by omega) (p := (spF W H g items a (i : Int)).1) (by rw [← hs])) (h.more _)
    | false => exact nestR_shut m (i + 1) a _ (by omega) hI.skip (h.skip hI.v hs)

/-! ### the law's loops -/
theorem ng25_eq (q : Pl) (k : Int) : ng25 (q, k, ()) = some (q.1 == k) := by
  show ng25.N BIG (q, k, ()) = _
  rw [ng25.eq]

theorem ng41_25L {a : List Pl} {k : Int} (ha : a.length ≤ 1000) (hne : ∀ q ∈ a, q.1 ≠ k) : ∀ (m i n : Nat), i + m = a.length → m < n → ng41_25.L0 BIG n a k (a.length : Int) (i : Int) = some (-1)
  | 0, i, n + 1, h, _ => by rw [ng41_25.L0_eq, cnd (by omega)]
  | m + 1, i, n + 1, h, hn => by
    have hi : i < a.length := by omega
    have e : (a[i].1 == k) = false := by simpa using hne _ (List.getElem_mem hi)
    rw [ng41_25.L0_eq, cd (by omega), idx_nat, List.getElem?_eq_getElem hi, Option.bind_some, ng25_eq, Option.bind_some, e]
    simp only [cond_false]
    rw [succ64 (by omega), ng41_25L ha hne m (i + 1) n (by omega) (by omega)]

theorem ng24_25_eq {a : List Pl} {k : Int} (ha : a.length ≤ 1000) (hne : ∀ q ∈ a, q.1 ≠ k) : ng24_25 (a, (k, ()), ()) = some false := by
  show ng24_25.N BIG (a, (k, ()), ()) = _
  rw [ng24_25.eq]
  have : ng41_25 (a, (k, ()), ()) = some (-1) := by
    show ng41_25.N BIG (a, (k, ()), ()) = _
    rw [ng41_25.eq]
    exact ng41_25L ha hne a.length 0 BIG (by omega) (by unfold BIG; omega)
  rw [this, Option.bind_some]
  rfl

theorem ng6L1 {a : List Pl} (b1 : Ty.den nY24) (hil : items.length ≤ 1000) (ha : a.length ≤ 11) (u : List Int) (hu : u.length ≤ 1000) (k : Int) (hk : ∀ x y r, fitsB b1.1 b1.2.1 b1.2.2.1 items a (k, x, y, r, ()) = false) (z : List It) (hz : z.length ≤ 1000) (i : Nat) (hi : i < u.length) (n0 : Nat) : ∀ (m j n : Nat), j + m = z.length → m < n →
    ng6.L1 BIG n0 n items a u (u.length : Int) (i : Int) z (z.length : Int) (j : Int) b1 k = ng6.L0 BIG n0 items a u (u.length : Int) ((i + 1 : Nat) : Int) b1
  | 0, j, n + 1, h, _ => by rw [ng6.L1_eq, cnd (by omega), succ64 (by omega)]
  | m + 1, j, n + 1, h, hn => by
    have hj : j < z.length := by omega
    rw [ng6.L1_eq, cd (by omega), idx_nat, List.getElem?_eq_getElem hj, Option.bind_some, ng21_eq hil (by omega), Option.bind_some, hk, ng21_eq hil (by omega), Option.bind_some, hk]
    simp only [cond_false]
    rw [succ64 (by omega), ng6L1 b1 hil ha u hu k hk z hz i hi n0 m (j + 1) n (by omega) (by omega)]

theorem ng6L0 {a : List Pl} {u : List Int} (b1 : Ty.den nY24) (hil : items.length ≤ 1000) (ha : a.length ≤ 11) (hu : u.length ≤ 1000) (hne : ∀ k ∈ u, ∀ q ∈ a, q.1 ≠ k) (hk : ∀ k ∈ u, ∀ x y r, fitsB b1.1 b1.2.1 b1.2.2.1 items a (k, x, y, r, ()) = false) : ∀ (m i n : Nat), i + m = u.length → m < n →
    ng6.L0 BIG n items a u (u.length : Int) (i : Int) b1 = some true
  | 0, i, n + 1, h, _ => by rw [ng6.L0_eq, cnd (by omega)]
  | m + 1, i, n + 1, h, hn => by
    have hi : i < u.length := by omega
    rw [ng6.L0_eq, cd (by omega), idx_nat, List.getElem?_eq_getElem hi, Option.bind_some, ng24_25_eq (by omega) (hne _ (List.getElem_mem hi)), Option.bind_some]
    simp only [cond_false]
    rw [ng16_eq hil ha, Option.bind_some, show (0 : Int) = ((0 : Nat) : Int) from rfl,
      ng6L1 b1 hil ha u hu u[i] (hk _ (List.getElem_mem hi)) (spotsF b1.1 b1.2.1 b1.2.2.1 items a) (spots_len ha) i hi n (spotsF b1.1 b1.2.1 b1.2.2.1 items a).length 0 BIG (by omega) (by have := spots_len (W := b1.1) (H := b1.2.1) (g := b1.2.2.1) (items := items) ha; unfold BIG; omega)]
    exact ng6L0 b1 hil ha hu hne hk m (i + 1) n (by omega) (by omega)
end

theorem ng6_true (x : DenA ng6.A) (h : WfA ng6.A x) : ng6 x = some true := by
  obtain ⟨a0, u⟩ := x
  show ng6.N BIG (a0, ()) = some true
  rw [ng6.eq, nAwake]
  simp only [Option.bind_some, Bool.not_true, cond_false]
  obtain ⟨b, hb, hf⟩ := ng8_few a0
  rw [hb]
  cases b with
  | false => rfl
  | true =>
    obtain ⟨h1, h2⟩ := hf rfl
    have e1 := copy10 a0.2.2.2.1 (by omega)
    simp only [Option.bind_some, Bool.not_true, cond_false, e1]
    rw [ng9_eq h1, Option.bind_some]
    unfold nestF
    cases ha : admB a0.1 a0.2.1 a0.2.2.1 a0.2.2.2.1 with
    | false =>
      simp only [cond_false]
      rw [show ((1 : Int) != 0) = true from rfl, ng23_eq _ _ _ _ (by omega), ha]
      rfl
    | true =>
      have hl8 := adm_len h1 ha
      have hI := nestR_inv a0.2.2.2.1.length 0 [] [] (by omega) (inv0 ha)
      have hS := nestR_shut a0.2.2.2.1.length 0 [] [] (by omega) (inv0 ha) (fun k hk => by simp at hk)
      generalize (nestR (spF a0.1 a0.2.1 a0.2.2.1 a0.2.2.2.1) a0.2.2.2.1.length 0 [] []) = R at *
      obtain ⟨a, u⟩ := R
      have hlen := hI.len
      simp only at hI hS hlen
      simp only [cond_true]
      rw [show ((0 : Int) != 0) = false from rfl]
      simp only [cond_false]
      rw [copy13 a (by omega), Option.bind_some, ng20_eq (by omega) (by omega), Option.bind_some, hI.v]
      simp only [Bool.not_true, cond_false]
      have hw : (IntKind.i64.wrap (((List.length a : Nat) : Int) + ((List.length u : Nat) : Int)) != ((List.length a0.2.2.2.1 : Nat) : Int)) = false := by
        rw [w64 (by omega) (by omega)]
        have : ((List.length a : Nat) : Int) + ((List.length u : Nat) : Int) = ((List.length a0.2.2.2.1 : Nat) : Int) := by omega
        rw [this]
        simp
      rw [hw]
      simp only [cond_false]
      refine ng6L0 (items := a0.2.2.2.1) a0 (by omega) (by omega) (by omega) (fun k hk => (hI.ul k hk).2.2) (fun k hk x y r => ?_) u.length 0 BIG (by omega) (by unfold BIG; omega)
      obtain ⟨k1, k2, k3⟩ := hI.ul k hk
      rw [fits_tst hI.v (inB_iff.2 ⟨k1, by show k < _; omega⟩) (fun q hq => k3 q hq)]
      exact hS k hk x y r
end Go.Ev
