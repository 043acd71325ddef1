/-
  THE PLAIN LAWS of nest, part E: the spots, the reference's side.
-/
import Derived.Test.YthappjffpkpojaaNeLawD
namespace Go.Ev
open Go
set_option linter.unusedVariables false
set_option linter.unusedSimpArgs false
set_option linter.unusedSectionVars false

theorem putL_cons (v x : Int) (r : List Int) : putL v (x :: r) = bif decide (x < v) then x :: putL v r else bif x == v then x :: r else v :: x :: r := rfl

theorem putL_length (v : Int) : ∀ l, (putL v l).length ≤ l.length + 1
  | [] => by simp [putL]
  | x :: r => by
    have := putL_length v r
    unfold putL
    cases decide (x < v) with
    | true => simp only [cond_true, List.length_cons]; omega
    | false => cases x == v <;> simp

theorem ng35S1 (xs : List Int) (v : Int) (hx : xs.length ≤ 1000) (i : Nat) (hi : i ≤ xs.length) : ng35.S1 BIG xs v (i : Int) = some (xs.take i ++ v :: xs.drop i) := by
  have hc : (decide (0 ≤ (i : Int)) && decide ((i : Int) ≤ ((List.length xs : Nat) : Int))) = true := by simp; omega
  rw [ng35.S1_eq, hc]
  simp only [cond_true, Int.toNat_natCast]
  rw [cd (by unfold most; simp; omega), cd (by unfold most; simp; omega), cd (by unfold most; simp; omega)]
  simp

theorem ng35L0 (xs : List Int) (v : Int) (hx : xs.length ≤ 1000) (m : Nat) : ∀ (i n : Nat), i + m = xs.length → m < n → ng35.L0 BIG n xs v (i : Int) = some (xs.take i ++ putL v (xs.drop i)) := by
  induction m with
  | zero =>
    intro i n h hn
    obtain ⟨n, rfl⟩ : ∃ k, n = k + 1 := ⟨n - 1, by omega⟩
    rw [ng35.L0_eq, cnd (by omega), ng35.S0_eq, cnd (by omega), ng35S1 xs v hx i (by omega), List.drop_eq_nil_of_le (by omega)]
    rfl
  | succ m ih =>
    intro i n h hn
    obtain ⟨n, rfl⟩ : ∃ k, n = k + 1 := ⟨n - 1, by omega⟩
    have hi : i < xs.length := by omega
    have e2 : idx xs (i : Int) = some xs[i] := by rw [idx_nat, List.getElem?_eq_getElem hi]
    have e3 : xs.drop i = xs[i] :: xs.drop (i + 1) := List.drop_eq_getElem_cons hi
    have e4 : xs.take (i + 1) = xs.take i ++ [xs[i]] := by rw [List.take_add_one, List.getElem?_eq_getElem hi]; rfl
    have e5 := ng35S1 xs v hx i (by omega)
    have e6 := List.take_append_drop i xs
    have e7 := ih (i + 1) n (by omega) (by omega)
    rw [e3] at e5 e6 ⊢
    rw [e4, List.append_assoc, List.singleton_append] at e7
    rw [ng35.L0_eq, cd (by omega), e2, Option.bind_some, putL_cons]
    by_cases c : xs[i] < v
    · rw [cd c, cd c, succ64 (by omega), e7]
    · rw [cnd c, cnd c, ng35.S0_eq, cd (by omega), e2, Option.bind_some]
      by_cases c2 : xs[i] = v
      · have e : (xs[i] == v) = true := by simpa using c2
        rw [e, cond_true, cond_true, e6]
      · have e : (xs[i] == v) = false := by simpa using c2
        rw [e, cond_false, cond_false, e5]

theorem ng35_eq (xs : List Int) (v : Int) (hx : xs.length ≤ 1000) : ng35 (xs, v, ()) = some (putL v xs) := by
  show ng35.N BIG (xs, v, ()) = _
  rw [ng35.eq, show (0 : Int) = ((0 : Nat) : Int) from rfl, ng35L0 xs v hx xs.length 0 BIG (by omega) (by unfold BIG; omega)]
  rfl

/-! ### the grid, twice -/
theorem ng18L2 (xs ys : List Int) (hx : xs.length ≤ 100) (i n0 : Nat) (hi : i < ys.length) (hi2 : i < 100) : ∀ (m j n : Nat) (acc : List It), j + m = xs.length → m < n → acc.length ≤ 100 * i + j →
    ng18.L2 BIG n0 n xs ys acc (i : Int) (j : Int) = ng18.L1 BIG n0 xs ys (acc ++ (xs.drop j).map fun x => (x, ys[i], ())) ((i + 1 : Nat) : Int)
  | 0, j, n + 1, acc, h, _, _ => by
    rw [ng18.L2_eq, cnd (by omega), List.drop_eq_nil_of_le (by omega), ng18.S1_eq, succ64 (by omega)]
    simp
  | m + 1, j, n + 1, acc, h, hn, ha => by
    have hj : j < xs.length := by omega
    rw [ng18.L2_eq, cd (by omega), idx_nat, List.getElem?_eq_getElem hj, Option.bind_some, idx_nat, List.getElem?_eq_getElem hi, Option.bind_some, cd (by unfold most; simp only [List.length_cons, List.length_nil]; omega), succ64 (by omega),
      ng18L2 xs ys hx i n0 hi hi2 m (j + 1) n _ (by omega) (by omega) (by simp; omega), List.drop_eq_getElem_cons hj]
    rw [List.map_cons, List.append_assoc]
    rfl

theorem ng18L1 (xs ys : List Int) (hx : xs.length ≤ 100) (hy : ys.length ≤ 100) : ∀ (m i n : Nat) (acc : List It), i + m = ys.length → m < n → acc.length ≤ 100 * i →
    ng18.L1 BIG n xs ys acc (i : Int) = some (acc ++ gridF xs (ys.drop i))
  | 0, i, n + 1, acc, h, _, _ => by
    rw [ng18.L1_eq, cnd (by omega), List.drop_eq_nil_of_le (by omega)]
    simp [gridF]
  | m + 1, i, n + 1, acc, h, hn, ha => by
    have hi : i < ys.length := by omega
    rw [ng18.L1_eq, cd (by omega), show (0 : Int) = ((0 : Nat) : Int) from rfl, ng18L2 xs ys hx i n hi (by omega) xs.length 0 BIG acc (by omega) (by unfold BIG; omega) (by omega),
      ng18L1 xs ys hx hy m (i + 1) n _ (by omega) (by omega) (by simp; omega), gridF_drop xs ys hi]
    simp

theorem ng18L2_1 (xs ys : List Int) (hx : xs.length ≤ 100) (i n0 : Nat) (hi : i < ys.length) (hi2 : i < 100) : ∀ (m j n : Nat) (acc : List It), j + m = xs.length → m < n → acc.length ≤ 100 * i + j →
    ng18.L2_1 BIG n0 n xs ys acc (i : Int) (j : Int) = ng18.L1_1 BIG n0 xs ys (acc ++ (xs.drop j).map fun x => (x, ys[i], ())) ((i + 1 : Nat) : Int)
  | 0, j, n + 1, acc, h, _, _ => by
    rw [ng18.L2_1_eq, cnd (by omega), List.drop_eq_nil_of_le (by omega), ng18.S1_1_eq, succ64 (by omega)]
    simp
  | m + 1, j, n + 1, acc, h, hn, ha => by
    have hj : j < xs.length := by omega
    rw [ng18.L2_1_eq, cd (by omega), idx_nat, List.getElem?_eq_getElem hj, Option.bind_some, idx_nat, List.getElem?_eq_getElem hi, Option.bind_some, cd (by unfold most; simp only [List.length_cons, List.length_nil]; omega), succ64 (by omega),
      ng18L2_1 xs ys hx i n0 hi hi2 m (j + 1) n _ (by omega) (by omega) (by simp; omega), List.drop_eq_getElem_cons hj]
    rw [List.map_cons, List.append_assoc]
    rfl

theorem ng18L1_1 (xs ys : List Int) (hx : xs.length ≤ 100) (hy : ys.length ≤ 100) : ∀ (m i n : Nat) (acc : List It), i + m = ys.length → m < n → acc.length ≤ 100 * i →
    ng18.L1_1 BIG n xs ys acc (i : Int) = some (acc ++ gridF xs (ys.drop i))
  | 0, i, n + 1, acc, h, _, _ => by
    rw [ng18.L1_1_eq, cnd (by omega), List.drop_eq_nil_of_le (by omega)]
    simp [gridF]
  | m + 1, i, n + 1, acc, h, hn, ha => by
    have hi : i < ys.length := by omega
    rw [ng18.L1_1_eq, cd (by omega), show (0 : Int) = ((0 : Nat) : Int) from rfl, ng18L2_1 xs ys hx i n hi (by omega) xs.length 0 BIG acc (by omega) (by unfold BIG; omega) (by omega),
      ng18L1_1 xs ys hx hy m (i + 1) n _ (by omega) (by omega) (by simp; omega), gridF_drop xs ys hi]
    simp

theorem ng18S0 (xs ys : List Int) (hx : xs.length ≤ 100) (hy : ys.length ≤ 100) : ng18.S0 BIG xs ys = some (gridF xs ys) := by
  rw [ng18.S0_eq, show (0 : Int) = ((0 : Nat) : Int) from rfl, ng18L1 xs ys hx hy ys.length 0 BIG [] (by omega) (by unfold BIG; omega) (by simp)]
  rfl

theorem ng18S0_1 (xs ys : List Int) (hx : xs.length ≤ 100) (hy : ys.length ≤ 100) : ng18.S0_1 BIG xs ys = some (gridF xs ys) := by
  rw [ng18.S0_1_eq, show (0 : Int) = ((0 : Nat) : Int) from rfl, ng18L1_1 xs ys hx hy ys.length 0 BIG [] (by omega) (by unfold BIG; omega) (by simp)]
  rfl

section
variable {W H g : Int} {items : List It} {ps : List Pl}

theorem ng18L0_1 (A : Adm W H g items) (hps : ps.length ≤ 90) (ho : ∀ p ∈ ps, okP W H g items p = true) : ∀ (m i n : Nat) (ax ay : List Int), i + m = ps.length → m < n → ax.length ≤ i + 1 → ay.length ≤ i + 1 →
    ng18.L0_1 BIG n g items ps ax ay (i : Int) = some (gridF (putAll ((ps.drop i).map (edX g items)) ax) (putAll ((ps.drop i).map (edY g items)) ay))
  | 0, i, n + 1, ax, ay, h, _, hx, hy => by
    rw [ng18.L0_1_eq, cnd (by omega), List.drop_eq_nil_of_le (by omega), ng18S0_1 ax ay (by omega) (by omega)]
    rfl
  | m + 1, i, n + 1, ax, ay, h, hn, hx, hy => by
    have hi : i < ps.length := by omega
    obtain ⟨p, hpd⟩ : ∃ p, p = ps[i] := ⟨_, rfl⟩
    have hp : okP W H g items p = true := by rw [hpd]; exact ho _ (List.getElem_mem hi)
    have e2 : idx ps (i : Int) = some p := by rw [idx_nat, List.getElem?_eq_getElem hi, hpd]
    obtain ⟨i1, x1, y1, w1, v1⟩ := okP_bd A hp
    have g1 := A.g1
    have g2 := A.g2
    have l1 := putL_length (edX g items p) ax
    have l2 := putL_length (edY g items p) ay
    rw [ng18.L0_1_eq, cd (by omega)]
    simp only [e2, Option.bind_some, ng34_eq i1]
    rw [w64 (n := p.2.1 + (szF items p).1) (by omega) (by omega), w64 (n := p.2.1 + (szF items p).1 + g) (by omega) (by omega), w64 (n := p.2.2.1 + (szF items p).2) (by omega) (by omega), w64 (n := p.2.2.1 + (szF items p).2 + g) (by omega) (by omega),
      ng35_eq _ _ (by omega), Option.bind_some, ng35_eq _ _ (by omega), Option.bind_some, succ64 (by omega)]
    refine (ng18L0_1 A hps ho m (i + 1) n (putL (edX g items p) ax) (putL (edY g items p) ay) (by omega) (by omega) (by omega) (by omega)).trans ?_
    rw [List.drop_eq_getElem_cons hi, ← hpd]
    rfl

theorem ng18_eq (hi : items.length ≤ 1000) (hps : ps.length ≤ 90) : ng18 (W, H, g, items, ps, ()) = some (spotsF W H g items ps) := by
  show ng18.N BIG (W, H, g, items, ps, ()) = _
  rw [ng18.eq, ng20_eq hi (by omega), Option.bind_some]
  unfold spotsF
  cases hv : validB W H g items ps with
  | false => rfl
  | true =>
    obtain ⟨A, ho⟩ := validB_adm hv
    simp only [Bool.not_true, cond_false, cond_true]
    unfold xsF ysF
    rw [← put_uniq, ← put_uniq]
    obtain ⟨n, hn⟩ := big_gt (n := 1000) (by omega)
    rw [show ng18.L0 BIG BIG g items ps [g] [g] 0 = ng18.L0 BIG (1000 + n + 1) g items ps [g] [g] 0 by rw [← hn], ng18.L0_eq]
    cases ps with
    | nil =>
      rw [cnd (by simp), ng18S0 [g] [g] (by simp) (by simp)]
      rfl
    | cons p r =>
      have hp : okP W H g items p = true := ho p (by simp)
      have e2 : idx (p :: r) (0 : Int) = some p := rfl
      obtain ⟨i1, x1, y1, w1, v1⟩ := okP_bd A hp
      have g1 := A.g1
      have g2 := A.g2
      have l1 := putL_length (edX g items p) [g]
      have l2 := putL_length (edY g items p) [g]
      rw [cd (by simp)]
      simp only [e2, Option.bind_some, ng34_eq i1]
      rw [w64 (n := p.2.1 + (szF items p).1) (by omega) (by omega), w64 (n := p.2.1 + (szF items p).1 + g) (by omega) (by omega), w64 (n := p.2.2.1 + (szF items p).2) (by omega) (by omega), w64 (n := p.2.2.1 + (szF items p).2 + g) (by omega) (by omega),
        ng35_eq _ _ (by simp), Option.bind_some, ng35_eq _ _ (by simp), Option.bind_some, show (0 : Int) = ((0 : Nat) : Int) from rfl, succ64 (by omega)]
      simp only [List.length_cons, List.length_nil] at l1 l2 hps
      refine (ng18L0_1 A (by simpa using hps) ho r.length 1 (1000 + n) (putL (edX g items p) [g]) (putL (edY g items p) [g]) (by simp; omega) (by omega) (by omega) (by omega)).trans ?_
      rfl
end
end Go.Ev
