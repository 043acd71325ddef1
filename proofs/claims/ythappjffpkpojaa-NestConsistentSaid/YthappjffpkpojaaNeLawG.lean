/-
  THE PLAIN LAWS of nest, part G: all items, one after the other; and the laws NestSpots, NestNest, NestConsistent.
-/
import Derived.Test.YthappjffpkpojaaNeLawF
import Derived.Test.YthappjffpkpojaaNeLawV
namespace Go.Ev
open Go
set_option linter.unusedVariables false
set_option linter.unusedSimpArgs false
set_option linter.unusedSectionVars false

def nestR (sp : List Pl → Int → Pl × Bool) : Nat → Nat → List Pl → List Int → List Pl × List Int
  | 0, _, a, u => (a, u)
  | m + 1, i, a, u => match (sp a (i : Int)).2 with
    | true => nestR sp m (i + 1) (a ++ [(sp a (i : Int)).1]) u
    | false => nestR sp m (i + 1) a (u ++ [(i : Int)])

section
variable {W H g : Int} {items : List It}

def spF (W H g : Int) (items : List It) (ps : List Pl) (i : Int) : Pl × Bool := findF (tstB W H g items ps) i (spotsF W H g items ps)

structure Inv (W H g : Int) (items : List It) (i : Nat) (a : List Pl) (u : List Int) : Prop where
  v : validB W H g items a = true
  lt : ∀ q ∈ a, 0 ≤ q.1 ∧ q.1 < (i : Int)
  len : a.length + u.length = i
  ul : ∀ k ∈ u, 0 ≤ k ∧ k < (i : Int) ∧ ∀ q ∈ a, q.1 ≠ k

theorem spF_true {ps : List Pl} {i : Int} {p : Pl} (h : spF W H g items ps i = (p, true)) : tstB W H g items ps p = true ∧ p.1 = i := findF_true h

theorem Inv.step {i : Nat} {a : List Pl} {u : List Int} (hI : Inv W H g items i a u) (hi : i < items.length) {p : Pl} (hp : spF W H g items a (i : Int) = (p, true)) : Inv W H g items (i + 1) (a ++ [p]) u := by
  obtain ⟨h1, h2⟩ := spF_true hp
  have hin : inB items p = true := inB_iff.2 ⟨by omega, by omega⟩
  have hne : ∀ q ∈ a, q.1 ≠ p.1 := fun q hq => by have := hI.lt q hq; omega
  have hf := fits_tst hI.v hin hne
  rw [h1] at hf
  unfold fitsB at hf
  rw [hI.v] at hf
  refine ⟨by simpa using hf, fun q hq => ?_, by have := hI.len; simp; omega, fun k hk => ?_⟩
  · rcases List.mem_append.1 hq with hq | hq
    · have := hI.lt q hq; omega
    · simp only [List.mem_singleton] at hq; subst hq; omega
  · obtain ⟨k1, k2, k3⟩ := hI.ul k hk
    refine ⟨k1, by omega, fun q hq => ?_⟩
    rcases List.mem_append.1 hq with hq | hq
    · exact k3 q hq
    · simp only [List.mem_singleton] at hq; subst hq; omega

theorem Inv.skip {i : Nat} {a : List Pl} {u : List Int} (hI : Inv W H g items i a u) : Inv W H g items (i + 1) a (u ++ [(i : Int)]) := by
  refine ⟨hI.v, fun q hq => by have := hI.lt q hq; omega, by have := hI.len; simp; omega, fun k hk => ?_⟩
  rcases List.mem_append.1 hk with hk | hk
  · obtain ⟨k1, k2, k3⟩ := hI.ul k hk
    exact ⟨k1, by omega, k3⟩
  · simp only [List.mem_singleton] at hk
    subst hk
    exact ⟨by omega, by omega, fun q hq => by have := hI.lt q hq; omega⟩

theorem ng9L0 (hl : items.length ≤ 11) : ∀ (m i n : Nat) (a : List Pl) (u : List Int), i + m = items.length → m < n → Inv W H g items i a u →
    ng9.L0 BIG n W H g items a u (items.length : Int) (i : Int) = some ((nestR (spF W H g items) m i a u).1, (nestR (spF W H g items) m i a u).2, 0)
  | 0, i, n + 1, a, u, h, _, _ => by
    rw [ng9.L0_eq, cnd (by omega), ng9.S0_eq]
    rfl
  | m + 1, i, n + 1, a, u, h, hn, hI => by
    have hi : i < items.length := by omega
    have hlen := hI.len
    rw [ng9.L0_eq, cd (by omega), ng29_eq (by omega) hI.v ⟨by omega, by omega⟩, Option.bind_some, cd (by unfold most; simp only [List.length_cons, List.length_nil]; omega), cd (by unfold most; simp only [List.length_cons, List.length_nil]; omega), succ64 (by omega)]
    show (bif (spF W H g items a (i : Int)).2 then _ else _) = _
    unfold nestR
    cases hs : (spF W H g items a (i : Int)).2 with
    | true =>
      have hI' := hI.step hi (p := (spF W H g items a (i : Int)).1) (by rw [← hs])
      simp only [cond_true]
      exact ng9L0 hl m (i + 1) n _ u (by omega) (by omega) hI'
    | false =>
      simp only [cond_false]
      exact ng9L0 hl m (i + 1) n a _ (by omega) (by omega) hI.skip

theorem ng11L0 (hl : items.length ≤ 11) : ∀ (m i n : Nat) (a : List Pl) (u : List Int), i + m = items.length → m < n → Inv W H g items i a u →
    ng11.L0 BIG n W H g items a u (i : Int) = some ((nestR (spF W H g items) m i a u).1, (nestR (spF W H g items) m i a u).2, 0)
  | 0, i, n + 1, a, u, h, _, _ => by
    rw [ng11.L0_eq, cnd (by omega), ng11.S1_eq]
    rfl
  | m + 1, i, n + 1, a, u, h, hn, hI => by
    have hi : i < items.length := by omega
    have hlen := hI.len
    have he : findF (fitsB W H g items a) (i : Int) (spotsF W H g items a) = spF W H g items a (i : Int) := findF_congr (fun x y r => fits_tst hI.v (inB_iff.2 ⟨by show (0 : Int) ≤ (i : Int); omega, by show (i : Int) < _; omega⟩) (fun q hq => by
      have := hI.lt q hq
      show q.1 ≠ (i : Int); omega)) _
    rw [ng11.L0_eq, cd (by omega), ng30_eq (by omega) (by omega), Option.bind_some, he, cd (by unfold most; simp only [List.length_cons, List.length_nil]; omega), cd (by unfold most; simp only [List.length_cons, List.length_nil]; omega)]
    rw [ng11.S0_eq, ng11.S0_eq, succ64 (by omega)]
    unfold nestR
    cases hs : (spF W H g items a (i : Int)).2 with
    | true =>
      have hI' := hI.step hi (p := (spF W H g items a (i : Int)).1) (by rw [← hs])
      simp only [cond_true]
      exact ng11L0 hl m (i + 1) n _ u (by omega) (by omega) hI'
    | false =>
      simp only [cond_false]
      exact ng11L0 hl m (i + 1) n a _ (by omega) (by omega) hI.skip

def nestF (W H g : Int) (items : List It) : List Pl × List Int × Int :=
  bif admB W H g items then ((nestR (spF W H g items) items.length 0 [] []).1, (nestR (spF W H g items) items.length 0 [] []).2, 0) else ([], [], 1)

theorem inv0 (h : admB W H g items = true) : Inv W H g items 0 [] [] := ⟨by unfold validB; rw [h]; rfl, by simp, rfl, by simp⟩

theorem adm_len (h : items.length ≤ 8 ∨ (50 < items.length ∧ items.length < 60)) (ha : admB W H g items = true) : items.length ≤ 8 := by
  have := (adm_of ha).len
  omega

theorem ng9_eq (h : items.length ≤ 8 ∨ (50 < items.length ∧ items.length < 60)) : ng9 (W, H, g, items, ()) = some (nestF W H g items) := by
  show ng9.N BIG (W, H, g, items, ()) = _
  rw [ng9.eq, ng28_eq W H g items (by omega), Option.bind_some]
  unfold nestF
  cases ha : admB W H g items with
  | false => rfl
  | true => exact ng9L0 (by have := adm_len h ha; omega) items.length 0 BIG [] [] (by omega) (by unfold BIG; omega) (inv0 ha)

theorem ng11_eq (h : items.length ≤ 8 ∨ (50 < items.length ∧ items.length < 60)) : ng11 (W, H, g, items, ()) = some (nestF W H g items) := by
  show ng11.N BIG (W, H, g, items, ()) = _
  rw [ng11.eq, ng23_eq W H g items (by omega), Option.bind_some]
  unfold nestF
  cases ha : admB W H g items with
  | false => rfl
  | true => exact ng11L0 (by have := adm_len h ha; omega) items.length 0 BIG [] [] (by omega) (by unfold BIG; omega) (inv0 ha)

theorem nestR_inv : ∀ (m i : Nat) (a : List Pl) (u : List Int), i + m ≤ items.length → Inv W H g items i a u → Inv W H g items (i + m) (nestR (spF W H g items) m i a u).1 (nestR (spF W H g items) m i a u).2
  | 0, i, a, u, _, hI => hI
  | m + 1, i, a, u, h, hI => by
    unfold nestR
    cases hs : (spF W H g items a (i : Int)).2 with
    | true =>
      have := nestR_inv m (i + 1) _ u (by omega) (hI.step (by omega) (p := (spF W H g items a (i : Int)).1) (by rw [← hs]))
      simp only
      rwa [show i + (m + 1) = i + 1 + m by omega]
    | false =>
      have := nestR_inv m (i + 1) a _ (by omega) hI.skip
      simp only
      rwa [show i + (m + 1) = i + 1 + m by omega]
end

/-! ### NestSpots, NestNest -/
theorem ng4_true (x : DenA ng4.A) (h : WfA ng4.A x) : ng4 x = some true := by
  obtain ⟨a0, u⟩ := x
  show ng4.N BIG (a0, ()) = some true
  rw [ng4.eq, nAwake]
  simp only [Option.bind_some, Bool.not_true, cond_false]
  obtain ⟨b, hb, hf⟩ := ng8_few a0
  rw [hb]
  cases b with
  | false => rfl
  | true =>
    obtain ⟨h1, h2⟩ := hf rfl
    have e1 := copy10 a0.2.2.2.1 (by omega)
    have e2 := copy17 a0.2.2.2.2.1 (by omega)
    simp only [Option.bind_some, Bool.not_true, cond_false, e1, e2]
    rw [ng16_eq (by omega) (by omega), Option.bind_some, ng18_eq (by omega) (by omega), Option.bind_some, same15 _ (spots_len (by omega))]
    rfl

theorem ng3_true (x : DenA ng3.A) (h : WfA ng3.A x) : ng3 x = some true := by
  obtain ⟨a0, u⟩ := x
  show ng3.N BIG (a0, ()) = some true
  rw [ng3.eq, nAwake]
  simp only [Option.bind_some, Bool.not_true, cond_false]
  obtain ⟨b, hb, hf⟩ := ng8_few a0
  rw [hb]
  cases b with
  | false => rfl
  | true =>
    obtain ⟨h1, h2⟩ := hf rfl
    have e1 := copy10 a0.2.2.2.1 (by omega)
    simp only [Option.bind_some, Bool.not_true, cond_false, e1]
    rw [ng9_eq h1, Option.bind_some, ng11_eq h1, Option.bind_some]
    have hl : (nestF a0.1 a0.2.1 a0.2.2.1 a0.2.2.2.1).1.length ≤ 1000 ∧ (nestF a0.1 a0.2.1 a0.2.2.1 a0.2.2.2.1).2.1.length ≤ 1000 := by
      unfold nestF
      cases ha : admB a0.1 a0.2.1 a0.2.2.1 a0.2.2.2.1 with
      | false => simp
      | true =>
        have hI := (nestR_inv a0.2.2.2.1.length 0 [] [] (by omega) (inv0 ha)).len
        simp only [cond_true]
        omega
    simp only [beq_self_eq_true, cond_true]
    rw [copy13 _ hl.1, Option.bind_some, same12 _ hl.1, Option.bind_some]
    simp only [cond_true]
    rw [same14 _ hl.2]
    rfl
end Go.Ev
