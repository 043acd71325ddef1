/-
  THE PLAIN LAWS of nest, part D: the spots: sorted and cut to one each, or put one by one: the same.
-/
import Derived.Test.YthappjffpkpojaaNeLawC
namespace Go.Ev
open Go
set_option linter.unusedVariables false
set_option linter.unusedSimpArgs false
set_option linter.unusedSectionVars false

/-! ### lists -/
def putL (v : Int) : List Int → List Int
  | [] => [v]
  | x :: r => bif decide (x < v) then x :: putL v r else bif x == v then x :: r else v :: x :: r

theorem putL_mem (v a : Int) : ∀ l, a ∈ putL v l ↔ a = v ∨ a ∈ l
  | [] => by simp [putL]
  | x :: r => by
    unfold putL
    by_cases h : x < v
    · rw [cd h, List.mem_cons, putL_mem v a r, List.mem_cons]
      constructor
      · rintro (h | h | h) <;> simp_all
      · rintro (h | h | h) <;> simp_all
    · rw [cnd h]
      by_cases h2 : x = v
      · subst h2; simp
      · have : (x == v) = false := by simpa using h2
        rw [this]; simp

theorem putL_sorted (v : Int) : ∀ l : List Int, l.Pairwise (· < ·) → (putL v l).Pairwise (· < ·)
  | [], _ => by simp [putL]
  | x :: r, h => by
    obtain ⟨h1, h2⟩ := List.pairwise_cons.1 h
    unfold putL
    by_cases hx : x < v
    · rw [cd hx]
      refine List.pairwise_cons.2 ⟨fun z hz => ?_, putL_sorted v r h2⟩
      rcases (putL_mem v z r).1 hz with rfl | hz
      · exact hx
      · exact h1 z hz
    · rw [cnd hx]
      by_cases h3 : x = v
      · subst h3; simpa using h
      · have : (x == v) = false := by simpa using h3
        rw [this]
        refine List.pairwise_cons.2 ⟨fun z hz => ?_, h⟩
        rcases List.mem_cons.1 hz with rfl | hz
        · omega
        · have := h1 z hz; omega

theorem uniqF_spec (p : Int) : ∀ l : List Int, (∀ x ∈ l, p ≤ x) → l.Pairwise (· ≤ ·) → (uniqF p l).Pairwise (· < ·) ∧ (∀ x ∈ uniqF p l, p < x) ∧ ∀ x, x ∈ l → x = p ∨ x ∈ uniqF p l
  | [], _, _ => by simp [uniqF]
  | y :: r, hp, h => by
    obtain ⟨h1, h2⟩ := List.pairwise_cons.1 h
    obtain ⟨i1, i2, i3⟩ := uniqF_spec y r h1 h2
    have hy := hp y (by simp)
    unfold uniqF
    by_cases he : y = p
    · rw [cd he]
      subst he
      refine ⟨i1, i2, fun x hx => ?_⟩
      rcases List.mem_cons.1 hx with rfl | hx
      · exact .inl rfl
      · exact i3 x hx
    · rw [cnd he]
      refine ⟨List.pairwise_cons.2 ⟨i2, i1⟩, fun x hx => ?_, fun x hx => ?_⟩
      · rcases List.mem_cons.1 hx with rfl | hx
        · omega
        · have := i2 x hx; omega
      · rcases List.mem_cons.1 hx with rfl | hx
        · exact .inr (by simp)
        · rcases i3 x hx with rfl | hx
          · exact .inr (by simp)
          · exact .inr (List.mem_cons_of_mem _ hx)

theorem uniq_sorted : ∀ {l : List Int}, l.Pairwise (· ≤ ·) → (uniq l).Pairwise (· < ·)
  | [], _ => .nil
  | x :: r, h => by
    obtain ⟨h1, h2⟩ := List.pairwise_cons.1 h
    obtain ⟨i1, i2, _⟩ := uniqF_spec x r h1 h2
    exact List.pairwise_cons.2 ⟨i2, i1⟩

theorem uniq_mem {l : List Int} (h : l.Pairwise (· ≤ ·)) (a : Int) : a ∈ uniq l ↔ a ∈ l := by
  cases l with
  | nil => rfl
  | cons x r =>
    obtain ⟨h1, h2⟩ := List.pairwise_cons.1 h
    obtain ⟨_, _, i3⟩ := uniqF_spec x r h1 h2
    unfold uniq
    rw [List.mem_cons, List.mem_cons]
    constructor
    · rintro (h | h)
      · exact .inl h
      · exact .inr (uniqF_mem x a r h)
    · rintro (h | h)
      · exact .inl h
      · exact i3 a h

theorem sorted_ext : ∀ {l l' : List Int}, l.Pairwise (· < ·) → l'.Pairwise (· < ·) → (∀ a, a ∈ l ↔ a ∈ l') → l = l'
  | [], [], _, _, _ => rfl
  | [], y :: r, _, _, h => absurd ((h y).2 (by simp)) (by simp)
  | x :: r, [], _, _, h => absurd ((h x).1 (by simp)) (by simp)
  | x :: r, y :: s, h1, h2, h => by
    obtain ⟨a1, a2⟩ := List.pairwise_cons.1 h1
    obtain ⟨b1, b2⟩ := List.pairwise_cons.1 h2
    have e : x = y := by
      have p := (h x).1 (by simp)
      have q := (h y).2 (by simp)
      rcases List.mem_cons.1 p with p | p
      · exact p
      · rcases List.mem_cons.1 q with q | q
        · exact q.symm
        · have := b1 x p; have := a1 y q; omega
    subst e
    congr 1
    refine sorted_ext a2 b2 fun a => ?_
    have ha := h a
    rw [List.mem_cons, List.mem_cons] at ha
    constructor
    · intro hm
      rcases ha.1 (.inr hm) with e | e
      · have := a1 a hm; omega
      · exact e
    · intro hm
      rcases ha.2 (.inr hm) with e | e
      · have := b1 a hm; omega
      · exact e

def putAll (l acc : List Int) : List Int := l.foldl (fun acc v => putL v acc) acc

theorem putAll_spec : ∀ (l acc : List Int), acc.Pairwise (· < ·) → (putAll l acc).Pairwise (· < ·) ∧ ∀ a, a ∈ putAll l acc ↔ a ∈ acc ∨ a ∈ l
  | [], acc, h => ⟨h, fun a => by simp [putAll]⟩
  | v :: r, acc, h => by
    obtain ⟨h1, h2⟩ := putAll_spec r (putL v acc) (putL_sorted v acc h)
    refine ⟨h1, fun a => ?_⟩
    show a ∈ putAll r (putL v acc) ↔ _
    rw [h2, putL_mem, List.mem_cons]
    constructor
    · rintro ((h | h) | h) <;> simp_all
    · rintro (h | h | h) <;> simp_all

theorem put_uniq (g : Int) (l : List Int) : putAll l [g] = uniq (isort (g :: l)) := by
  obtain ⟨h1, h2⟩ := putAll_spec l [g] (by simp)
  refine sorted_ext h1 (uniq_sorted (isort_sorted _)) fun a => ?_
  rw [h2, uniq_mem (isort_sorted _), (isort_perm _).mem_iff]
  simp

def gridF (xs ys : List Int) : List It := ys.flatMap fun y => xs.map fun x => (x, y, ())

theorem gridF_drop (xs ys : List Int) {i : Nat} (h : i < ys.length) : gridF xs (ys.drop i) = (xs.map fun x => (x, ys[i], ())) ++ gridF xs (ys.drop (i + 1)) := by
  rw [List.drop_eq_getElem_cons h]; rfl

/-! ### the program's side -/
section
variable {W H g : Int} {items : List It} {ps : List Pl}

def edX (g : Int) (items : List It) (p : Pl) : Int := p.2.1 + (szF items p).1 + g
def edY (g : Int) (items : List It) (p : Pl) : Int := p.2.2.1 + (szF items p).2 + g

theorem valR_ok : ∀ {pre ps : List Pl}, valR W H g items pre ps = true → ∀ p ∈ ps, okP W H g items p = true
  | _, [], _, p, hp => by simp at hp
  | pre, q :: r, h, p, hp => by
    unfold valR at h
    simp only [Bool.and_eq_true] at h
    rcases List.mem_cons.1 hp with rfl | hp
    · exact h.1.1
    · exact valR_ok h.2 p hp

theorem ng1016L (A : Adm W H g items) (hps : ps.length ≤ 1000) (ho : ∀ p ∈ ps, okP W H g items p = true) : ∀ (m i n : Nat) (ax ay : List Int) (z : List It), i + m = ps.length → m < n → ax.length ≤ i + 1 → ay.length ≤ i + 1 →
    ng1016.L0 BIG n g items z ax ay ps (ps.length : Int) (i : Int) = some (.inr (ax ++ (ps.drop i).map (edX g items), ay ++ (ps.drop i).map (edY g items)))
  | 0, i, n + 1, ax, ay, z, h, _, _, _ => by
    rw [ng1016.L0_eq, cnd (by omega), List.drop_eq_nil_of_le (by omega)]
    simp
  | m + 1, i, n + 1, ax, ay, z, h, hn, hx, hy => by
    have hi : i < ps.length := by omega
    obtain ⟨p, hpd⟩ : ∃ p, p = ps[i] := ⟨_, rfl⟩
    have hp : okP W H g items p = true := by rw [hpd]; exact ho _ (List.getElem_mem hi)
    obtain ⟨i1, x1, y1, w1, v1⟩ := okP_bd A hp
    have g1 := A.g1
    have g2 := A.g2
    rw [ng1016.L0_eq, cd (by omega), idx_nat, List.getElem?_eq_getElem hi, Option.bind_some, ← hpd, ng31_eq i1, Option.bind_some, cd (by unfold most; simp only [List.length_cons, List.length_nil]; omega),
      cd (by unfold most; simp only [List.length_cons, List.length_nil]; omega),
      w64 (n := p.2.1 + (szF items p).1) (by omega) (by omega), w64 (n := p.2.1 + (szF items p).1 + g) (by omega) (by omega), w64 (n := p.2.2.1 + (szF items p).2) (by omega) (by omega), w64 (n := p.2.2.1 + (szF items p).2 + g) (by omega) (by omega),
      succ64 (by omega), ng1016L A hps ho m (i + 1) n _ _ z (by omega) (by omega) (by simp; omega) (by simp; omega), List.drop_eq_getElem_cons hi, ← hpd]
    simp [edX, edY]

theorem ng2016L1 (xs ys : List Int) (hx : xs.length ≤ 100) (hy : ys.length ≤ 100) (y : Int) (i n0 : Nat) (hi : i < 100) : ∀ (m j n : Nat) (acc : List It), j + m = xs.length → m < n → acc.length ≤ 100 * i + j →
    ng2016.L1 BIG n0 n xs acc y ys (ys.length : Int) (i : Int) xs (xs.length : Int) (j : Int) = ng2016.L0 BIG n0 xs (acc ++ (xs.drop j).map fun x => (x, y, ())) ys (ys.length : Int) ((i + 1 : Nat) : Int)
  | 0, j, n + 1, acc, h, _, _ => by
    rw [ng2016.L1_eq, cnd (by omega), List.drop_eq_nil_of_le (by omega), succ64 (by omega)]
    simp
  | m + 1, j, n + 1, acc, h, hn, ha => by
    have hj : j < xs.length := by omega
    rw [ng2016.L1_eq, cd (by omega), idx_nat, List.getElem?_eq_getElem hj, Option.bind_some, cd (by unfold most; simp only [List.length_cons, List.length_nil]; omega), succ64 (by omega),
      ng2016L1 xs ys hx hy y i n0 hi m (j + 1) n _ (by omega) (by omega) (by simp; omega), List.drop_eq_getElem_cons hj]
    rw [List.map_cons, List.append_assoc]
    rfl

theorem ng2016L0 (xs ys : List Int) (hx : xs.length ≤ 100) (hy : ys.length ≤ 100) : ∀ (m i n : Nat) (acc : List It), i + m = ys.length → m < n → acc.length ≤ 100 * i →
    ng2016.L0 BIG n xs acc ys (ys.length : Int) (i : Int) = some (acc ++ gridF xs (ys.drop i))
  | 0, i, n + 1, acc, h, _, _ => by
    rw [ng2016.L0_eq, cnd (by omega), List.drop_eq_nil_of_le (by omega)]
    simp [gridF]
  | m + 1, i, n + 1, acc, h, hn, ha => by
    have hi : i < ys.length := by omega
    rw [ng2016.L0_eq, cd (by omega), idx_nat, List.getElem?_eq_getElem hi, Option.bind_some, show (0 : Int) = ((0 : Nat) : Int) from rfl, ng2016L1 xs ys hx hy ys[i] i n (by omega) xs.length 0 BIG acc (by omega) (by unfold BIG; omega) (by omega),
      ng2016L0 xs ys hx hy m (i + 1) n _ (by omega) (by omega) (by simp; omega), gridF_drop xs ys hi]
    simp

theorem ng2016_eq (xs ys : List Int) (hx : xs.length ≤ 100) (hy : ys.length ≤ 100) : ng2016 (xs, ys, ()) = some (gridF xs ys) := by
  show ng2016.N BIG (xs, ys, ()) = _
  rw [ng2016.eq, show (0 : Int) = ((0 : Nat) : Int) from rfl, ng2016L0 xs ys hx hy ys.length 0 BIG [] (by omega) (by unfold BIG; omega) (by simp)]
  rfl

def xsF (g : Int) (items : List It) (ps : List Pl) : List Int := uniq (isort (g :: ps.map (edX g items)))
def ysF (g : Int) (items : List It) (ps : List Pl) : List Int := uniq (isort (g :: ps.map (edY g items)))
def spotsF (W H g : Int) (items : List It) (ps : List Pl) : List It := bif validB W H g items ps then gridF (xsF g items ps) (ysF g items ps) else []

theorem validB_adm (h : validB W H g items ps = true) : Adm W H g items ∧ ∀ p ∈ ps, okP W H g items p = true := by
  unfold validB at h
  rw [Bool.and_eq_true] at h
  exact ⟨adm_of h.1, valR_ok h.2⟩

theorem ng16_eq (hi : items.length ≤ 1000) (hps : ps.length ≤ 11) : ng16 (W, H, g, items, ps, ()) = some (spotsF W H g items ps) := by
  have e : ng1016 (W, H, g, items, ps, ()) = ng1016.N BIG (W, H, g, items, ps, ()) := rfl
  unfold ng16 spotsF
  rw [e, ng1016.eq, ng19_eq hi (by omega), Option.bind_some]
  cases hv : validB W H g items ps with
  | false => rfl
  | true =>
    obtain ⟨A, ho⟩ := validB_adm hv
    simp only [Bool.not_true, cond_false, cond_true]
    rw [show (0 : Int) = ((0 : Nat) : Int) from rfl, ng1016L A (by omega) ho ps.length 0 BIG [g] [g] [] (by omega) (by unfold BIG; omega) (by simp) (by simp)]
    simp only [List.drop_zero, List.cons_append, List.nil_append]
    have hl1 : (g :: ps.map (edX g items)).length = ps.length + 1 := by simp
    have hl2 : (g :: ps.map (edY g items)).length = ps.length + 1 := by simp
    have hc : (Nat.blt 0 (g :: ps.map (edX g items)).length && Nat.ble (g :: ps.map (edX g items)).length 12 && Nat.blt 0 (g :: ps.map (edY g items)).length && Nat.ble (g :: ps.map (edY g items)).length 12) = true := by
      rw [hl1, hl2]
      simp only [Bool.and_eq_true, Nat.blt_eq, Nat.ble_eq]
      omega
    rw [hc]
    simp only
    have u1 := uniq_length (isort (g :: ps.map (edX g items)))
    have u2 := uniq_length (isort (g :: ps.map (edY g items)))
    rw [isort_length] at u1 u2
    exact ng2016_eq _ _ (by omega) (by omega)
end
end Go.Ev
