/-
  THE PLAIN LAWS of nest, part B: what is valid: both sides tell the same.
-/
import Derived.Test.YthappjffpkpojaaNeLawA
namespace Go.Ev
open Go
set_option linter.unusedVariables false
set_option linter.unusedSimpArgs false
set_option linter.unusedSectionVars false

theorem beq_dec (a b : Int) : (a == b) = !decide (a ≠ b) := by
  by_cases h : a = b <;> simp [h]

structure Adm (W H g : Int) (items : List It) : Prop where
  w1 : 1 ≤ W
  w2 : W ≤ 10000000
  h1 : 1 ≤ H
  h2 : H ≤ 10000000
  g1 : 0 ≤ g
  g2 : g ≤ 10000000
  len : items.length ≤ 50
  all : ∀ it ∈ items, okI it = true

theorem adm_of {W H g : Int} {items : List It} (h : admB W H g items = true) : Adm W H g items := by
  unfold admB okL at h
  simp only [Bool.and_eq_true, decide_eq_true_eq, List.all_eq_true] at h
  obtain ⟨⟨⟨⟨⟨⟨a, b⟩, ⟨c, d⟩⟩, e⟩, f⟩, k⟩, l⟩ := h
  exact ⟨a, b, c, d, e, f, k, l⟩

def szF (items : List It) (p : Pl) : Int × Int := match items[p.1.toNat]? with
  | some it => bif p.2.2.2.1 then (it.2.1, it.1) else (it.1, it.2.1)
  | none => (0, 0)

def inB (items : List It) (p : Pl) : Bool := decide (0 ≤ p.1) && decide (p.1 < (items.length : Int))

theorem inB_iff {items : List It} {p : Pl} : inB items p = true ↔ 0 ≤ p.1 ∧ p.1 < (items.length : Int) := by simp [inB]

theorem idx_in {items : List It} {p : Pl} (h : inB items p = true) : ∃ it, idx items p.1 = some it ∧ items[p.1.toNat]? = some it ∧ it ∈ items := by
  obtain ⟨h1, h2⟩ := inB_iff.1 h
  have hl : p.1.toNat < items.length := by omega
  exact ⟨items[p.1.toNat], idx_lt h1 hl, List.getElem?_eq_getElem hl, List.getElem_mem hl⟩

theorem ng31_eq {items : List It} {p : Pl} (h : inB items p = true) : ng31 (items, p, ()) = some (szF items p) := by
  show ng31.N BIG (items, p, ()) = _
  obtain ⟨it, h1, h2, _⟩ := idx_in h
  rw [ng31.eq, h1, Option.bind_some]
  unfold szF
  rw [h2]
  cases p.2.2.2.1 <;> rfl

theorem ng34_eq {items : List It} {p : Pl} (h : inB items p = true) : ng34 (items, p, ()) = some (szF items p) := by
  show ng34.N BIG (items, p, ()) = _
  obtain ⟨it, h1, h2, _⟩ := idx_in h
  rw [ng34.eq, h1]
  unfold szF
  rw [h2]
  cases p.2.2.2.1 <;> rfl

theorem szF_bd {W H g : Int} {items : List It} {p : Pl} (A : Adm W H g items) (h : inB items p = true) : (1 ≤ (szF items p).1 ∧ (szF items p).1 ≤ 10000000) ∧ 1 ≤ (szF items p).2 ∧ (szF items p).2 ≤ 10000000 := by
  obtain ⟨it, h1, h2, h3⟩ := idx_in h
  have := A.all it h3
  unfold okI at this
  rw [Bool.and_eq_true, okL_iff, okL_iff] at this
  unfold szF
  rw [h2]
  cases p.2.2.2.1 with
  | true => exact ⟨this.2, this.1⟩
  | false => exact this

def onB (W H g : Int) (items : List It) (p : Pl) : Bool :=
  decide (g ≤ p.2.1) && decide (g ≤ p.2.2.1) && decide (p.2.1 + (szF items p).1 + g ≤ W) && decide (p.2.2.1 + (szF items p).2 + g ≤ H)

theorem onB_iff {W H g : Int} {items : List It} {p : Pl} : onB W H g items p = true ↔ g ≤ p.2.1 ∧ g ≤ p.2.2.1 ∧ p.2.1 + (szF items p).1 + g ≤ W ∧ p.2.2.1 + (szF items p).2 + g ≤ H := by
  simp [onB, and_assoc]

theorem onFalse {W H g : Int} {items : List It} {p : Pl} (h : ¬ (g ≤ p.2.1 ∧ g ≤ p.2.2.1 ∧ p.2.1 + (szF items p).1 + g ≤ W ∧ p.2.2.1 + (szF items p).2 + g ≤ H)) : onB W H g items p = false := by
  cases he : onB W H g items p with
  | false => rfl
  | true => exact absurd (onB_iff.1 he) h

theorem inFalse {items : List It} {p : Pl} (h : ¬ (0 ≤ p.1 ∧ p.1 < (items.length : Int))) : inB items p = false := by
  cases he : inB items p with
  | false => rfl
  | true => exact absurd (inB_iff.1 he) h

theorem ng36_eq {W H g : Int} {items : List It} {p : Pl} (A : Adm W H g items) (h : inB items p = true) : ng36 (W, H, g, items, p, ()) = some (onB W H g items p) := by
  show ng36.N BIG (W, H, g, items, p, ()) = _
  obtain ⟨⟨s1, s2⟩, s3, s4⟩ := szF_bd A h
  obtain ⟨a1, a2, a3, a4, a5, a6, _, _⟩ := A
  rw [ng36.eq, ng31_eq h]
  by_cases c1 : p.2.1 < g
  · rw [cd c1, onFalse (by omega)]
  · rw [cnd c1]
    by_cases c2 : p.2.2.1 < g
    · rw [cd c2, onFalse (by omega)]
    · rw [cnd c2]
      by_cases c3 : p.2.1 > W
      · rw [cd c3, onFalse (by omega)]
      · rw [cnd c3]
        by_cases c4 : p.2.2.1 > H
        · rw [cd c4, onFalse (by omega)]
        · rw [cnd c4, Option.bind_some, w64 (n := p.2.1 + (szF items p).1) (by omega) (by omega), w64 (n := p.2.1 + (szF items p).1 + g) (by omega) (by omega), w64 (n := p.2.2.1 + (szF items p).2) (by omega) (by omega), w64 (n := p.2.2.1 + (szF items p).2 + g) (by omega) (by omega)]
          unfold onB
          rw [decide_eq_true (show g ≤ p.2.1 by omega), decide_eq_true (show g ≤ p.2.2.1 by omega)]
          by_cases c5 : p.2.1 + (szF items p).1 + g ≤ W
          · rw [cd c5, decide_eq_true c5]; rfl
          · rw [cnd c5, decide_eq_false c5]; rfl

def apartB (g : Int) (items : List It) (p q : Pl) : Bool :=
  decide (p.2.1 + (szF items p).1 + g ≤ q.2.1) || decide (q.2.1 + (szF items q).1 + g ≤ p.2.1) || decide (p.2.2.1 + (szF items p).2 + g ≤ q.2.2.1) || decide (q.2.2.1 + (szF items q).2 + g ≤ p.2.2.1)

def okP (W H g : Int) (items : List It) (p : Pl) : Bool := inB items p && onB W H g items p
def sepB (g : Int) (items : List It) (p q : Pl) : Bool := decide (p.1 ≠ q.1) && apartB g items p q

theorem okP_bd {W H g : Int} {items : List It} {p : Pl} (A : Adm W H g items) (h : okP W H g items p = true) : inB items p = true ∧ (0 ≤ p.2.1 ∧ p.2.1 ≤ 10000000) ∧ (0 ≤ p.2.2.1 ∧ p.2.2.1 ≤ 10000000) ∧ (1 ≤ (szF items p).1 ∧ (szF items p).1 ≤ 10000000) ∧ 1 ≤ (szF items p).2 ∧ (szF items p).2 ≤ 10000000 := by
  unfold okP at h
  rw [Bool.and_eq_true] at h
  obtain ⟨⟨s1, s2⟩, s3, s4⟩ := szF_bd A h.1
  obtain ⟨o1, o2, o3, o4⟩ := onB_iff.1 h.2
  obtain ⟨a1, a2, a3, a4, a5, a6, _, _⟩ := A
  exact ⟨h.1, by omega, by omega, ⟨s1, s2⟩, s3, s4⟩

theorem ng37_eq {W H g : Int} {items : List It} {p q : Pl} (A : Adm W H g items) (hp : okP W H g items p = true) (hq : okP W H g items q = true) : ng37 (g, items, p, q, ()) = some (apartB g items p q) := by
  show ng37.N BIG (g, items, p, q, ()) = _
  obtain ⟨i1, x1, y1, w1, v1⟩ := okP_bd A hp
  obtain ⟨i2, x2, y2, w2, v2⟩ := okP_bd A hq
  have g1 := A.g1
  have g2 := A.g2
  rw [ng37.eq, ng31_eq i1, ng31_eq i2]
  simp only [Option.bind_some]
  unfold apartB
  rw [w64 (n := p.2.1 + (szF items p).1) (by omega) (by omega), w64 (n := p.2.1 + (szF items p).1 + g) (by omega) (by omega), w64 (n := q.2.1 + (szF items q).1) (by omega) (by omega), w64 (n := q.2.1 + (szF items q).1 + g) (by omega) (by omega),
    w64 (n := p.2.2.1 + (szF items p).2) (by omega) (by omega), w64 (n := p.2.2.1 + (szF items p).2 + g) (by omega) (by omega), w64 (n := q.2.2.1 + (szF items q).2) (by omega) (by omega), w64 (n := q.2.2.1 + (szF items q).2 + g) (by omega) (by omega)]
  cases decide (p.2.1 + (szF items p).1 + g ≤ q.2.1) <;> cases decide (q.2.1 + (szF items q).1 + g ≤ p.2.1) <;> cases decide (p.2.2.1 + (szF items p).2 + g ≤ q.2.2.1) <;> simp

def valR (W H g : Int) (items : List It) : List Pl → List Pl → Bool
  | _, [] => true
  | pre, p :: r => okP W H g items p && pre.all (sepB g items p) && valR W H g items (pre ++ [p]) r

def validB (W H g : Int) (items : List It) (ps : List Pl) : Bool := admB W H g items && valR W H g items [] ps

section
variable {W H g : Int} {items : List It} {ps : List Pl}

theorem ng19L1 (A : Adm W H g items) (hps : ps.length ≤ 1000) {p : Pl} (hp : okP W H g items p = true) (i : Nat) (hi : i < ps.length) (n0 : Nat) (hq : ∀ q ∈ ps.take i, okP W H g items q = true) : ∀ (m j n : Nat), j + m = i → m < n →
    ng19.L1 BIG n0 n W H g items ps ps (ps.length : Int) (i : Int) (ps.take i) (((ps.take i).length : Nat) : Int) (j : Int) p =
      bif ((ps.take i).drop j).all (sepB g items p) then ng19.L0 BIG n0 W H g items ps ps (ps.length : Int) ((i + 1 : Nat) : Int) else some false
  | 0, j, n + 1, h, _ => by
    have hl : (ps.take i).length = i := by rw [List.length_take]; omega
    rw [ng19.L1_eq, cnd (by omega), List.drop_eq_nil_of_le (by omega), succ64 (by omega)]
    rfl
  | m + 1, j, n + 1, h, hn => by
    have hl : (ps.take i).length = i := by rw [List.length_take]; omega
    have hj : j < (ps.take i).length := by omega
    rw [ng19.L1_eq, cd (by omega), idx_nat, List.getElem?_eq_getElem hj, Option.bind_some, ng37_eq A hp (hq _ (List.getElem_mem hj)), List.drop_eq_getElem_cons hj, List.all_cons]
    rw [beq_dec p.1, succ64 (by omega), ng19L1 A hps hp i hi n0 hq m (j + 1) n (by omega) (by omega)]
    unfold sepB
    cases decide (p.1 ≠ ((ps.take i)[j]'hj).1) with
    | false => rfl
    | true =>
      simp only [Bool.not_true, cond_false, Bool.true_and, Option.bind_some]
      cases apartB g items p ((ps.take i)[j]'hj) <;> rfl

theorem take_next {i : Nat} (hi : i < ps.length) : ps.take (i + 1) = ps.take i ++ [ps[i]] := by
  rw [List.take_add_one, List.getElem?_eq_getElem hi]; rfl

theorem ng19L0 (A : Adm W H g items) (hps : ps.length ≤ 1000) : ∀ (m i n : Nat), i + m = ps.length → m < n → (∀ q ∈ ps.take i, okP W H g items q = true) →
    ng19.L0 BIG n W H g items ps ps (ps.length : Int) (i : Int) = some (valR W H g items (ps.take i) (ps.drop i))
  | 0, i, n + 1, h, _, _ => by
    rw [ng19.L0_eq, cnd (by omega), List.drop_eq_nil_of_le (by omega)]
    rfl
  | m + 1, i, n + 1, h, hn, hq => by
    have hi : i < ps.length := by omega
    rw [ng19.L0_eq, cd (by omega), idx_nat, List.getElem?_eq_getElem hi, Option.bind_some, List.drop_eq_getElem_cons hi]
    unfold valR
    unfold okP
    by_cases c1 : ps[i].1 < 0
    · rw [cd c1, inFalse (by omega)]; rfl
    · rw [cnd c1]
      by_cases c2 : ps[i].1 ≥ (items.length : Int)
      · rw [cd c2, inFalse (by omega)]; rfl
      · rw [cnd c2]
        have hin : inB items ps[i] = true := inB_iff.2 ⟨by omega, by omega⟩
        rw [hin, ng36_eq A hin, Option.bind_some]
        cases hon : onB W H g items ps[i] with
        | false => rfl
        | true =>
          have hp : okP W H g items ps[i] = true := by unfold okP; rw [hin, hon]; rfl
          have hc : (decide (0 ≤ (i : Int)) && decide ((i : Int) ≤ (ps.length : Int))) = true := by simp; omega
          simp only [Bool.not_true, cond_false, Bool.true_and, hc, cond_true]
          rw [Int.toNat_natCast]
          have e0 : (0 : Int) = ((0 : Nat) : Int) := rfl
          have h1 := ng19L1 A hps hp i hi n hq i 0 BIG (by omega) (by unfold BIG; omega)
          rw [List.drop_zero] at h1
          rw [e0]
          refine h1.trans ?_
          cases (ps.take i).all (sepB g items ps[i]) with
          | false => rfl
          | true =>
            have := ng19L0 A hps m (i + 1) n (by omega) (by omega) (fun q hq' => by
              rw [take_next hi] at hq'
              rcases List.mem_append.1 hq' with hq' | hq'
              · exact hq q hq'
              · simp only [List.mem_singleton] at hq'
                rw [hq']; exact hp)
            simp only [cond_true, Bool.true_and]
            rw [this, take_next hi]

theorem ng19_eq (hi : items.length ≤ 1000) (hps : ps.length ≤ 1000) : ng19 (W, H, g, items, ps, ()) = some (validB W H g items ps) := by
  show ng19.N BIG (W, H, g, items, ps, ()) = _
  rw [ng19.eq, ng28_eq W H g items hi, Option.bind_some]
  unfold validB
  cases ha : admB W H g items with
  | false => rfl
  | true =>
    have := ng19L0 (adm_of ha) hps ps.length 0 BIG (by omega) (by unfold BIG; omega) (by simp)
    simp only [Bool.not_true, cond_false, Bool.true_and]
    exact this
end
end Go.Ev
