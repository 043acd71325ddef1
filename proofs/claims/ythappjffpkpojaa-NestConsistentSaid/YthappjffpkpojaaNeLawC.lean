/-
  THE PLAIN LAWS of nest, part C: what is valid, the reference's side; what fits.
-/
import Derived.Test.YthappjffpkpojaaNeLawB
namespace Go.Ev
open Go
set_option linter.unusedVariables false
set_option linter.unusedSimpArgs false
set_option linter.unusedSectionVars false

theorem ng38_eq (a : Int) : ng38 (a, ()) = some (decide (a < 0) || decide (a > 10000000)) := by
  show ng38.N BIG (a, ()) = _
  rw [ng38.eq]
  by_cases h : a < 0 <;> simp [h]

section
variable {W H g : Int} {items : List It} {ps : List Pl}

theorem ng20L1 (A : Adm W H g items) (hps : ps.length ≤ 1000) {p : Pl} (hp : okP W H g items p = true) (i : Nat) (hi : i < ps.length) (hip : ps[i] = p) (n0 : Nat) (hq : ∀ q ∈ ps.take i, okP W H g items q = true) : ∀ (m j n : Nat), j + m = i → m < n →
    ng20.L1 BIG n0 n W H g items ps (i : Int) (szF items p).1 (szF items p).2 (j : Int) =
      bif ((ps.take i).drop j).all (sepB g items p) then ng20.L0 BIG n0 W H g items ps ((i + 1 : Nat) : Int) else some false
  | 0, j, n + 1, h, _ => by
    have hl : (ps.take i).length = i := by rw [List.length_take]; omega
    rw [ng20.L1_eq, cnd (by omega), List.drop_eq_nil_of_le (by omega), ng20.S1_eq, succ64 (by omega)]
    rfl
  | m + 1, j, n + 1, h, hn => by
    have hl : (ps.take i).length = i := by rw [List.length_take]; omega
    have hj : j < (ps.take i).length := by omega
    have hjp : j < ps.length := by omega
    have ih := ng20L1 A hps hp i hi hip n0 hq m (j + 1) n (by omega) (by omega)
    have hS : ng20.S0 BIG n0 n W H g items ps (i : Int) (szF items p).1 (szF items p).2 (j : Int) = bif ((ps.take i).drop (j + 1)).all (sepB g items p) then ng20.L0 BIG n0 W H g items ps ((i + 1 : Nat) : Int) else some false := by
      rw [ng20.S0_eq, succ64 (by omega), ih]
    obtain ⟨q, hqd⟩ : ∃ q, q = ps[j] := ⟨_, rfl⟩
    have hqt : (ps.take i)[j] = q := by rw [List.getElem_take]; exact hqd.symm
    have e1 : idx ps (j : Int) = some q := by rw [idx_nat, List.getElem?_eq_getElem hjp, hqd]
    have e2 : idx ps (i : Int) = some p := by rw [idx_nat, List.getElem?_eq_getElem hi, hip]
    have hqo : okP W H g items q = true := by rw [← hqt]; exact hq _ (List.getElem_mem hj)
    obtain ⟨i1, x1, y1, w1, v1⟩ := okP_bd A hp
    obtain ⟨i2, x2, y2, w2, v2⟩ := okP_bd A hqo
    have g1 := A.g1
    have g2 := A.g2
    rw [List.drop_eq_getElem_cons hj, List.all_cons, hqt, ng20.L1_eq, cd (by omega)]
    simp only [e1, e2, Option.bind_some, ng34_eq i2]
    rw [w64 (n := p.2.1 + (szF items p).1) (by omega) (by omega), w64 (n := p.2.1 + (szF items p).1 + g) (by omega) (by omega), w64 (n := q.2.1 + (szF items q).1) (by omega) (by omega), w64 (n := q.2.1 + (szF items q).1 + g) (by omega) (by omega),
      w64 (n := p.2.2.1 + (szF items p).2) (by omega) (by omega), w64 (n := p.2.2.1 + (szF items p).2 + g) (by omega) (by omega), w64 (n := q.2.2.1 + (szF items q).2) (by omega) (by omega), w64 (n := q.2.2.1 + (szF items q).2 + g) (by omega) (by omega), hS]
    have e3 : (q.1 == p.1) = !decide (p.1 ≠ q.1) := by
      rw [beq_dec]
      by_cases h : p.1 = q.1
      · simp [h]
      · simp [h, Ne.symm h]
    rw [e3]
    unfold sepB apartB
    cases decide (p.1 ≠ q.1) with
    | false =>
      cases decide (p.2.1 + (szF items p).1 + g ≤ q.2.1) <;> cases decide (p.2.2.1 + (szF items p).2 + g ≤ q.2.2.1) <;> rfl
    | true =>
      cases decide (p.2.1 + (szF items p).1 + g ≤ q.2.1) <;> cases decide (p.2.2.1 + (szF items p).2 + g ≤ q.2.2.1) <;> cases decide (q.2.1 + (szF items q).1 + g ≤ p.2.1) <;> cases decide (q.2.2.1 + (szF items q).2 + g ≤ p.2.2.1) <;> simp only [Bool.not_true, Bool.not_false, cond_true, cond_false, Bool.or_true, Bool.or_false, Bool.true_or, Bool.false_or, Bool.true_and, Bool.false_and, Bool.and_true]

theorem ng20L0 (A : Adm W H g items) (hps : ps.length ≤ 1000) : ∀ (m i n : Nat), i + m = ps.length → m < n → (∀ q ∈ ps.take i, okP W H g items q = true) →
    ng20.L0 BIG n W H g items ps (i : Int) = some (valR W H g items (ps.take i) (ps.drop i))
  | 0, i, n + 1, h, _, _ => by
    rw [ng20.L0_eq, cnd (by omega), List.drop_eq_nil_of_le (by omega)]
    rfl
  | m + 1, i, n + 1, h, hn, hq => by
    have hi : i < ps.length := by omega
    obtain ⟨p, hpd⟩ : ∃ p, p = ps[i] := ⟨_, rfl⟩
    have e2 : idx ps (i : Int) = some p := by rw [idx_nat, List.getElem?_eq_getElem hi, hpd]
    rw [ng20.L0_eq, cd (by omega), List.drop_eq_getElem_cons hi, ← hpd]
    simp only [e2, Option.bind_some]
    unfold valR okP
    by_cases c1 : p.1 < 0
    · rw [cd c1, inFalse (by omega)]; rfl
    · rw [cnd c1]
      by_cases c2 : p.1 ≥ (items.length : Int)
      · rw [cd c2, inFalse (by omega)]; rfl
      · rw [cnd c2]
        have hin : inB items p = true := inB_iff.2 ⟨by omega, by omega⟩
        obtain ⟨⟨s1, s2⟩, s3, s4⟩ := szF_bd A hin
        obtain ⟨a1, a2, a3, a4, a5, a6, _, _⟩ := id A
        rw [hin, ng38_eq, ng38_eq, ng34_eq hin]
        simp only [Option.bind_some]
        by_cases c3 : p.2.1 < 0 ∨ p.2.1 > 10000000
        · have : (decide (p.2.1 < 0) || decide (p.2.1 > 10000000)) = true := by simpa using c3
          rw [this, onFalse (by omega)]; rfl
        · have : (decide (p.2.1 < 0) || decide (p.2.1 > 10000000)) = false := by
            rw [decide_eq_false (by omega), decide_eq_false (by omega)]; rfl
          rw [this]
          simp only [cond_false]
          by_cases c4 : p.2.2.1 < 0 ∨ p.2.2.1 > 10000000
          · have : (decide (p.2.2.1 < 0) || decide (p.2.2.1 > 10000000)) = true := by simpa using c4
            rw [this, onFalse (by omega)]; rfl
          · have : (decide (p.2.2.1 < 0) || decide (p.2.2.1 > 10000000)) = false := by
              rw [decide_eq_false (by omega), decide_eq_false (by omega)]; rfl
            rw [this]
            simp only [cond_false]
            rw [w64 (n := p.2.1 + (szF items p).1) (by omega) (by omega), w64 (n := p.2.1 + (szF items p).1 + g) (by omega) (by omega), w64 (n := p.2.2.1 + (szF items p).2) (by omega) (by omega), w64 (n := p.2.2.1 + (szF items p).2 + g) (by omega) (by omega)]
            by_cases c5 : p.2.1 < g
            · rw [cd c5, onFalse (by omega)]; rfl
            · rw [cnd c5]
              by_cases c6 : p.2.2.1 < g
              · rw [cd c6, onFalse (by omega)]; rfl
              · rw [cnd c6]
                by_cases c7 : p.2.1 + (szF items p).1 + g > W
                · rw [cd c7, onFalse (by omega)]; rfl
                · rw [cnd c7]
                  by_cases c8 : p.2.2.1 + (szF items p).2 + g > H
                  · rw [cd c8, onFalse (by omega)]; rfl
                  · rw [cnd c8]
                    have hon : onB W H g items p = true := onB_iff.2 ⟨by omega, by omega, by omega, by omega⟩
                    have hp : okP W H g items p = true := by unfold okP; rw [hin, hon]; rfl
                    rw [hon]
                    have h1 := ng20L1 A hps hp i hi hpd.symm n hq i 0 BIG (by omega) (by unfold BIG; omega)
                    rw [List.drop_zero] at h1
                    rw [show (0 : Int) = ((0 : Nat) : Int) from rfl]
                    refine h1.trans ?_
                    cases (ps.take i).all (sepB g items p) with
                    | false => rfl
                    | true =>
                      have := ng20L0 A hps m (i + 1) n (by omega) (by omega) (fun q hq' => by
                        rw [take_next hi] at hq'
                        rcases List.mem_append.1 hq' with hq' | hq'
                        · exact hq q hq'
                        · simp only [List.mem_singleton] at hq'
                          rw [hq', ← hpd]; exact hp)
                      simp only [cond_true, Bool.true_and]
                      rw [this, take_next hi, ← hpd]

theorem ng20_eq (hi : items.length ≤ 1000) (hps : ps.length ≤ 1000) : ng20 (W, H, g, items, ps, ()) = some (validB W H g items ps) := by
  show ng20.N BIG (W, H, g, items, ps, ()) = _
  rw [ng20.eq, ng23_eq W H g items hi, Option.bind_some]
  unfold validB
  cases ha : admB W H g items with
  | false => rfl
  | true =>
    have := ng20L0 (adm_of ha) hps ps.length 0 BIG (by omega) (by unfold BIG; omega) (by simp)
    simp only [Bool.not_true, cond_false, Bool.true_and]
    exact this

/-! ### what fits -/
def fitsB (W H g : Int) (items : List It) (ps : List Pl) (p : Pl) : Bool := validB W H g items ps && validB W H g items (ps ++ [p])

theorem ng22_eq (hi : items.length ≤ 1000) (hps : ps.length ≤ 999) (p : Pl) : ng22 (W, H, g, items, ps, p, ()) = some (fitsB W H g items ps p) := by
  show ng22.N BIG (W, H, g, items, ps, p, ()) = _
  rw [ng22.eq, ng20_eq hi (by omega), Option.bind_some, cd (by unfold most; simp; omega), cd (by unfold most; simp; omega)]
  unfold fitsB
  cases validB W H g items ps with
  | false => rfl
  | true =>
    simp only [cond_true, Bool.true_and, List.nil_append]
    rw [ng20_eq hi (by simp; omega)]
    rfl

theorem ng39_eq (hps : ps.length ≤ 999) : ng39 (ps, ()) = some ps := by
  show ng39.N BIG (ps, ()) = _
  rw [ng39.eq, ng39.S0_eq, cd (by unfold most; simp; omega), List.nil_append]
  cases ps with
  | nil => unfold both; simp
  | cons a r => rfl

theorem ng21_eq (hi : items.length ≤ 1000) (hps : ps.length ≤ 999) (p : Pl) : ng21 (W, H, g, items, ps, p, ()) = some (fitsB W H g items ps p) := by
  show ng21.N BIG (W, H, g, items, ps, p, ()) = _
  rw [ng21.eq, ng19_eq hi (by omega), Option.bind_some, ng39_eq hps, Option.bind_some, cd (by unfold most; simp; omega)]
  unfold fitsB
  cases validB W H g items ps with
  | false => rfl
  | true =>
    simp only [cond_true, Bool.true_and]
    rw [ng19_eq hi (by simp; omega)]
    rfl
end
end Go.Ev
