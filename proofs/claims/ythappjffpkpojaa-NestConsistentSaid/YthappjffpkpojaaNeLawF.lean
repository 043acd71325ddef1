/-
  THE PLAIN LAWS of nest, part F: where one item goes, and all of them.
-/
import Derived.Test.YthappjffpkpojaaNeLawE
namespace Go.Ev
open Go
set_option linter.unusedVariables false
set_option linter.unusedSimpArgs false
set_option linter.unusedSectionVars false

def findF (t : Pl → Bool) (i : Int) : List It → Pl × Bool
  | [] => ((0, 0, 0, false, ()), false)
  | s :: r => bif t (i, s.1, s.2.1, false, ()) then ((i, s.1, s.2.1, false, ()), true) else bif t (i, s.1, s.2.1, true, ()) then ((i, s.1, s.2.1, true, ()), true) else findF t i r

theorem findF_cons (t : Pl → Bool) (i : Int) (s : It) (r : List It) : findF t i (s :: r) = bif t (i, s.1, s.2.1, false, ()) then ((i, s.1, s.2.1, false, ()), true) else bif t (i, s.1, s.2.1, true, ()) then ((i, s.1, s.2.1, true, ()), true) else findF t i r := rfl

theorem findF_congr {t t' : Pl → Bool} {i : Int} (h : ∀ x y r, t (i, x, y, r, ()) = t' (i, x, y, r, ())) : ∀ z, findF t i z = findF t' i z
  | [] => rfl
  | s :: r => by simp only [findF, h, findF_congr h r]

theorem findF_true {t : Pl → Bool} {i : Int} : ∀ {z : List It} {p : Pl}, findF t i z = (p, true) → t p = true ∧ p.1 = i
  | [], p, h => by simp [findF] at h
  | s :: r, p, h => by
    unfold findF at h
    cases h1 : t (i, s.1, s.2.1, false, ()) with
    | true =>
      rw [h1] at h
      simp only [cond_true, Prod.mk.injEq, and_true] at h
      rw [← h]; exact ⟨h1, rfl⟩
    | false =>
      rw [h1] at h
      simp only [cond_false] at h
      cases h2 : t (i, s.1, s.2.1, true, ()) with
      | true =>
        rw [h2] at h
        simp only [cond_true, Prod.mk.injEq, and_true] at h
        rw [← h]; exact ⟨h2, rfl⟩
      | false =>
        rw [h2] at h
        exact findF_true h

theorem findF_false {t : Pl → Bool} {i : Int} : ∀ {z : List It} {p : Pl}, findF t i z = (p, false) → ∀ s ∈ z, ∀ r, t (i, s.1, s.2.1, r, ()) = false
  | [], p, h, s, hs, r => by simp at hs
  | s :: r, p, h, s', hs, b => by
    unfold findF at h
    cases h1 : t (i, s.1, s.2.1, false, ()) with
    | true => rw [h1] at h; simp at h
    | false =>
      rw [h1] at h
      simp only [cond_false] at h
      cases h2 : t (i, s.1, s.2.1, true, ()) with
      | true => rw [h2] at h; simp at h
      | false =>
        rw [h2] at h
        rcases List.mem_cons.1 hs with rfl | hs
        · cases b
          · exact h1
          · exact h2
        · exact findF_false h s' hs b

section
variable {W H g : Int} {items : List It} {ps : List Pl}

def tstB (W H g : Int) (items : List It) (ps : List Pl) (p : Pl) : Bool := onB W H g items p && ps.all (apartB g items p)

/-! ### the program's side -/
theorem ng46_eq (A : Adm W H g items) {p q : Pl} (hp : okP W H g items p = true) (hq : okP W H g items q = true) : ng46 (q, g, items, p, ()) = some (!apartB g items p q) := by
  show ng46.N BIG (q, g, items, p, ()) = _
  rw [ng46.eq, ng37_eq A hp hq, Option.bind_some]

theorem ng41L (A : Adm W H g items) (hps : ps.length ≤ 1000) (ho : ∀ q ∈ ps, okP W H g items q = true) {p : Pl} (hp : okP W H g items p = true) : ∀ (m i n : Nat), i + m = ps.length → m < n →
    ∃ r, ng41_46.L0 BIG n ps g items p (ps.length : Int) (i : Int) = some r ∧ decide (r ≥ 0) = !(ps.drop i).all (apartB g items p)
  | 0, i, n + 1, h, _ => ⟨-1, by rw [ng41_46.L0_eq, cnd (by omega)], by rw [List.drop_eq_nil_of_le (by omega)]; rfl⟩
  | m + 1, i, n + 1, h, hn => by
    have hi : i < ps.length := by omega
    rw [ng41_46.L0_eq, cd (by omega), idx_nat, List.getElem?_eq_getElem hi, Option.bind_some, ng46_eq A hp (ho _ (List.getElem_mem hi)), Option.bind_some, List.drop_eq_getElem_cons hi, List.all_cons]
    cases hk : apartB g items p ps[i] with
    | false =>
      refine ⟨(i : Int), rfl, ?_⟩
      simp
    | true =>
      simp only [Bool.not_true, cond_false, Bool.true_and]
      rw [succ64 (by omega)]
      exact ng41L A hps ho hp m (i + 1) n (by omega) (by omega)

theorem ng24_eq (A : Adm W H g items) (hps : ps.length ≤ 1000) (ho : ∀ q ∈ ps, okP W H g items q = true) {p : Pl} (hp : okP W H g items p = true) : ng24_46 (ps, (g, items, p, ()), ()) = some (!ps.all (apartB g items p)) := by
  show ng24_46.N BIG (ps, (g, items, p, ()), ()) = _
  rw [ng24_46.eq]
  obtain ⟨r, h1, h2⟩ := ng41L A hps ho hp ps.length 0 BIG (by omega) (by unfold BIG; omega)
  have : ng41_46 (ps, (g, items, p, ()), ()) = some r := by
    show ng41_46.N BIG (ps, (g, items, p, ()), ()) = _
    rw [ng41_46.eq]; exact h1
  rw [this, Option.bind_some, h2]
  rfl

theorem ng29L1 (A : Adm W H g items) (hps : ps.length ≤ 1000) (ho : ∀ q ∈ ps, okP W H g items q = true) {i : Int} (hi : 0 ≤ i ∧ i < (items.length : Int)) (z : List It) (hz : z.length ≤ 1000) (k : Nat) (hk : k < z.length) (n0 : Nat) (b12 : Pl) (s : It) (m : Nat) :
    ng29.L1 BIG n0 (m + 3) W H ps i z (z.length : Int) (k : Int) [false, true] ((List.length [false, true] : Nat) : Int) 0 g items b12 s =
      bif tstB W H g items ps (i, s.1, s.2.1, false, ()) then some ((i, s.1, s.2.1, false, ()), true) else bif tstB W H g items ps (i, s.1, s.2.1, true, ()) then some ((i, s.1, s.2.1, true, ()), true)
      else ng29.L0 BIG n0 W H ps i z (z.length : Int) ((k + 1 : Nat) : Int) g items b12 := by
  have hin : ∀ x y r, inB items ((i, x, y, r, ()) : Pl) = true := fun x y r => inB_iff.2 hi
  have e1 := ng29.L1_eq BIG n0 (m + 2) W H ps i z (z.length : Int) (k : Int) [false, true] ((List.length [false, true] : Nat) : Int) 0 g items b12 s
  have e2 := ng29.L1_eq BIG n0 (m + 1) W H ps i z (z.length : Int) (k : Int) [false, true] ((List.length [false, true] : Nat) : Int) 1 g items b12 s
  have e3 := ng29.L1_eq BIG n0 m W H ps i z (z.length : Int) (k : Int) [false, true] ((List.length [false, true] : Nat) : Int) 2 g items b12 s
  rw [cnd (by simp), succ64 (by omega)] at e3
  rw [cd (by simp), show idx [false, true] (1 : Int) = some true from rfl, Option.bind_some, show IntKind.i64.wrap ((1 : Int) + 1) = 2 from rfl, e3, ng36_eq A (hin s.1 s.2.1 true), Option.bind_some] at e2
  rw [cd (by simp), show idx [false, true] (0 : Int) = some false from rfl, Option.bind_some, show IntKind.i64.wrap ((0 : Int) + 1) = 1 from rfl, e2, ng36_eq A (hin s.1 s.2.1 false), Option.bind_some] at e1
  rw [e1]
  have hp : ∀ r, onB W H g items ((i, s.1, s.2.1, r, ()) : Pl) = true → okP W H g items ((i, s.1, s.2.1, r, ()) : Pl) = true := fun r h => by
    unfold okP; rw [hin, h]; rfl
  have h24 : ∀ r, onB W H g items ((i, s.1, s.2.1, r, ()) : Pl) = true → ng24_46 (ps, (g, items, ((i, s.1, s.2.1, r, ()) : Pl), ()), ()) = some (!ps.all (apartB g items ((i, s.1, s.2.1, r, ()) : Pl))) := fun r h => ng24_eq A hps ho (hp r h)
  have ht : ∀ r, tstB W H g items ps ((i, s.1, s.2.1, r, ()) : Pl) = (onB W H g items ((i, s.1, s.2.1, r, ()) : Pl) && ps.all (apartB g items ((i, s.1, s.2.1, r, ()) : Pl))) := fun r => rfl
  rw [ht, ht]
  cases h0 : onB W H g items ((i, s.1, s.2.1, false, ()) : Pl) with
  | false =>
    cases h1 : onB W H g items ((i, s.1, s.2.1, true, ()) : Pl) with
    | false => simp only [cond_false, Bool.false_and]
    | true => simp only [cond_false, cond_true, Bool.false_and, Bool.true_and, h24 true h1, Option.bind_some, Bool.not_not]
  | true =>
    cases h1 : onB W H g items ((i, s.1, s.2.1, true, ()) : Pl) with
    | false => simp only [cond_false, cond_true, Bool.false_and, Bool.true_and, h24 false h0, Option.bind_some, Bool.not_not]
    | true => simp only [cond_false, cond_true, Bool.false_and, Bool.true_and, h24 false h0, h24 true h1, Option.bind_some, Bool.not_not]

theorem ng29L0 (A : Adm W H g items) (hps : ps.length ≤ 1000) (ho : ∀ q ∈ ps, okP W H g items q = true) {i : Int} (hi : 0 ≤ i ∧ i < (items.length : Int)) (z : List It) (hz : z.length ≤ 1000) (b12 : Pl) : ∀ (m k n : Nat), k + m = z.length → m < n →
    ng29.L0 BIG n W H ps i z (z.length : Int) (k : Int) g items b12 = some (findF (tstB W H g items ps) i (z.drop k))
  | 0, k, n + 1, h, _ => by
    rw [ng29.L0_eq, cnd (by omega), ng29.S0_eq, List.drop_eq_nil_of_le (by omega)]
    rfl
  | m + 1, k, n + 1, h, hn => by
    have hk : k < z.length := by omega
    obtain ⟨M, hM⟩ := big_gt (n := 2) (by omega)
    have e := ng29L1 A hps ho hi z hz k hk n b12 z[k] M
    rw [show M + 3 = BIG by omega] at e
    rw [ng29.L0_eq, cd (by omega), idx_nat, List.getElem?_eq_getElem hk, Option.bind_some, e, ng29L0 A hps ho hi z hz b12 m (k + 1) n (by omega) (by omega), List.drop_eq_getElem_cons hk, findF_cons]
    cases tstB W H g items ps (i, z[k].1, z[k].2.1, false, ()) <;> cases tstB W H g items ps (i, z[k].1, z[k].2.1, true, ()) <;> rfl

theorem gridF_length (xs : List Int) : ∀ ys : List Int, (gridF xs ys).length = xs.length * ys.length
  | [] => by simp [gridF]
  | y :: r => by
    have := gridF_length xs r
    unfold gridF at *
    rw [List.flatMap_cons, List.length_append, this, List.length_map, List.length_cons, Nat.mul_succ, Nat.add_comm]

theorem spots_len (hps : ps.length ≤ 11) : (spotsF W H g items ps).length ≤ 1000 := by
  unfold spotsF
  cases validB W H g items ps with
  | false => simp
  | true =>
    simp only [cond_true]
    rw [gridF_length]
    have a := uniq_length (isort (g :: ps.map (edX g items)))
    have b := uniq_length (isort (g :: ps.map (edY g items)))
    rw [isort_length] at a b
    simp only [List.length_cons, List.length_map] at a b
    have : (xsF g items ps).length * (ysF g items ps).length ≤ 12 * 12 := Nat.mul_le_mul (by unfold xsF; omega) (by unfold ysF; omega)
    omega

theorem ng29_eq (hps : ps.length ≤ 11) (hv : validB W H g items ps = true) {i : Int} (hi : 0 ≤ i ∧ i < (items.length : Int)) : ng29 (W, H, g, items, ps, i, ()) = some (findF (tstB W H g items ps) i (spotsF W H g items ps)) := by
  obtain ⟨A, ho⟩ := validB_adm hv
  have hl := A.len
  show ng29.N BIG (W, H, g, items, ps, i, ()) = _
  rw [ng29.eq, ng16_eq (by omega) hps, Option.bind_some]
  have := ng29L0 A (by omega) ho hi (spotsF W H g items ps) (spots_len hps) (0, 0, 0, false, ()) (spotsF W H g items ps).length 0 BIG (by omega) (by have := spots_len (W := W) (H := H) (g := g) (items := items) hps; unfold BIG; omega)
  exact this

/-! ### the reference's side -/
theorem ng30L1 (hil : items.length ≤ 1000) (hps : ps.length ≤ 900) {i : Int} (z : List It) (hz : z.length ≤ 1000) (k : Nat) (hk : k < z.length) (n0 : Nat) (b12 : Pl) (m : Nat) :
    ng30.L1 BIG n0 (m + 3) W H g items ps i z (k : Int) 0 b12 =
      bif fitsB W H g items ps (i, z[k].1, z[k].2.1, false, ()) then some ((i, z[k].1, z[k].2.1, false, ()), true) else bif fitsB W H g items ps (i, z[k].1, z[k].2.1, true, ()) then some ((i, z[k].1, z[k].2.1, true, ()), true)
      else ng30.L0 BIG n0 W H g items ps i z ((k + 1 : Nat) : Int) b12 := by
  have ez : idx z (k : Int) = some z[k] := by rw [idx_nat, List.getElem?_eq_getElem hk]
  have e1 := ng30.L1_eq BIG n0 (m + 2) W H g items ps i z (k : Int) 0 b12
  have e2 := ng30.L1_eq BIG n0 (m + 1) W H g items ps i z (k : Int) 1 b12
  have e3 := ng30.L1_eq BIG n0 m W H g items ps i z (k : Int) 2 b12
  rw [cnd (by omega), ng30.S1_eq, succ64 (by omega)] at e3
  rw [cd (by omega)] at e2 e1
  simp only [ez, Option.bind_some] at e2 e1
  rw [show ((1 : Int) == 1) = true from rfl, ng22_eq hil (by omega), Option.bind_some, show IntKind.i64.wrap ((1 : Int) + 1) = 2 from rfl, e3] at e2
  rw [show ((0 : Int) == 1) = false from rfl, ng22_eq hil (by omega), Option.bind_some, show IntKind.i64.wrap ((0 : Int) + 1) = 1 from rfl, e2] at e1
  exact e1

theorem ng30L0 (hil : items.length ≤ 1000) (hps : ps.length ≤ 900) {i : Int} (z : List It) (hz : z.length ≤ 1000) (b12 : Pl) : ∀ (m k n : Nat), k + m = z.length → m < n →
    ng30.L0 BIG n W H g items ps i z (k : Int) b12 = some (findF (fitsB W H g items ps) i (z.drop k))
  | 0, k, n + 1, h, _ => by
    rw [ng30.L0_eq, cnd (by omega), ng30.S0_eq, List.drop_eq_nil_of_le (by omega)]
    rfl
  | m + 1, k, n + 1, h, hn => by
    have hk : k < z.length := by omega
    obtain ⟨M, hM⟩ := big_gt (n := 2) (by omega)
    have e := ng30L1 (W := W) (H := H) (g := g) (i := i) hil hps z hz k hk n b12 M
    rw [show M + 3 = BIG by omega] at e
    rw [ng30.L0_eq, cd (by omega), e, ng30L0 hil hps z hz b12 m (k + 1) n (by omega) (by omega), List.drop_eq_getElem_cons hk, findF_cons]
    cases fitsB W H g items ps (i, z[k].1, z[k].2.1, false, ()) <;> cases fitsB W H g items ps (i, z[k].1, z[k].2.1, true, ()) <;> rfl

theorem ng30_eq (hil : items.length ≤ 1000) (hps : ps.length ≤ 11) (i : Int) : ng30 (W, H, g, items, ps, i, ()) = some (findF (fitsB W H g items ps) i (spotsF W H g items ps)) := by
  show ng30.N BIG (W, H, g, items, ps, i, ()) = _
  rw [ng30.eq, ng18_eq hil (by omega), Option.bind_some]
  exact ng30L0 hil (by omega) (spotsF W H g items ps) (spots_len hps) (0, 0, 0, false, ()) (spotsF W H g items ps).length 0 BIG (by omega) (by have := spots_len (W := W) (H := H) (g := g) (items := items) hps; unfold BIG; omega)

/-! ### both the same -/
theorem valR_append : ∀ (pre ps : List Pl) (p : Pl), valR W H g items pre (ps ++ [p]) = (valR W H g items pre ps && (okP W H g items p && (pre ++ ps).all (sepB g items p)))
  | pre, [], p => by simp [valR]
  | pre, q :: r, p => by
    simp only [List.cons_append, valR]
    rw [valR_append (pre ++ [q]) r p, List.append_assoc]
    simp only [List.singleton_append, Bool.and_assoc]

theorem fits_tst (hv : validB W H g items ps = true) {p : Pl} (hin : inB items p = true) (hne : ∀ q ∈ ps, q.1 ≠ p.1) : fitsB W H g items ps p = tstB W H g items ps p := by
  have hv' := hv
  unfold fitsB
  rw [hv]
  unfold validB at hv ⊢
  rw [Bool.and_eq_true] at hv
  rw [hv.1, valR_append, hv.2]
  unfold okP tstB
  rw [hin]
  simp only [Bool.true_and, List.nil_append]
  congr 1
  have : ∀ q ∈ ps, sepB g items p q = apartB g items p q := fun q hq => by
    unfold sepB
    rw [decide_eq_true (Ne.symm (hne q hq))]; rfl
  rw [Bool.eq_iff_iff, List.all_eq_true, List.all_eq_true]
  exact ⟨fun h q hq => by rw [← this q hq]; exact h q hq, fun h q hq => by rw [this q hq]; exact h q hq⟩
end
end Go.Ev
