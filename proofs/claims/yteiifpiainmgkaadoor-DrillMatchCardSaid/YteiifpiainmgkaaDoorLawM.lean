/-
  DrillMatch: the plain law: both texts choose the same tool, and it can make the hole.
-/
import Derived.Test.YteiifpiainmgkaaDoorLawP
namespace Go.Ev
open Go Go.Proofs
set_option linter.unusedSimpArgs false
set_option linter.unusedSectionVars false
set_option linter.unusedVariables false

abbrev Tl := Ty.den dY32
abbrev tKind (t : Tl) : Int := t.2.1
abbrev tRad (t : Tl) : Int := t.2.2.1
abbrev tFlute (t : Tl) : Int := t.2.2.2.1

def isDr (x1 x2 : Int) (t : Tl) : Prop := x2 ≤ tFlute t ∧ tKind t = 2 ∧ tRad t = x1
instance (x1 x2 : Int) (t : Tl) : Decidable (isDr x1 x2 t) := by unfold isDr; infer_instance

def canMill (x1 x2 : Int) (t : Tl) : Prop := x2 ≤ tFlute t ∧ MillsT (tKind t) (tRad t) x1
instance (x1 x2 : Int) (t : Tl) : Decidable (canMill x1 x2 t) := by unfold canMill; infer_instance

section
variable (l : List Tl) (x1 x2 : Int)

def radAt (b : Int) : Int := match idx l b with
  | some s => tRad s
  | none => 0

def upB (t : Tl) (b : Int) (i : Nat) : Int := if canMill x1 x2 t ∧ (b < 0 ∨ tRad t > radAt l b) then (i : Int) else b

def drillAt : Nat → Nat → Option Nat
  | 0, _ => none
  | m + 1, i => match l[i]? with
    | some t => if isDr x1 x2 t then some i else drillAt m (i + 1)
    | none => none

def bestOf : Nat → Nat → Int → Int
  | 0, _, b => b
  | m + 1, i, b => match l[i]? with
    | some t => bestOf m (i + 1) (upB l x1 x2 t b i)
    | none => b

def finM (b : Int) : Int × Bool × Int := if b < 0 then (0, false, 16) else (b, false, 0)

theorem radAt_eq {b : Int} (h0 : 0 ≤ b) (h : b.toNat < l.length) : idx l b = some (l[b.toNat]'h) ∧ radAt l b = tRad (l[b.toNat]'h) := by
  have := idx_lt h0 h
  exact ⟨this, by unfold radAt; rw [this]⟩

theorem dg26_t (t : Tl) (r : Int) : dg26 (t, r, ()) = some (decide (MillsT (tKind t) (tRad t) r)) := by
  obtain ⟨a, b, c, d, e, f, g, h, _⟩ := t
  exact dg26_eq a b c d e f g h r

theorem dg29_t (t : Tl) (r : Int) : dg29 (t, r, ()) = some (decide (MillsT (tKind t) (tRad t) r)) := by
  obtain ⟨a, b, c, d, e, f, g, h, _⟩ := t
  exact dg29_eq a b c d e f g h r

variable (hl : l.length < 1000)

include hl in
theorem L15 : ∀ (m i n : Nat) (b : Int), i + m = l.length → m < n → b < (i : Int) → dg15.L0 BIG n l x1 x2 b l (l.length : Int) (i : Int) =
    some (match drillAt l x1 x2 m i with | some j => ((j : Int), true, (0 : Int)) | none => finM (bestOf l x1 x2 m i b)) := by
  intro m
  induction m with
  | zero =>
    intro i n b him hn hb
    obtain ⟨n, rfl⟩ : ∃ n', n = n' + 1 := ⟨n - 1, by omega⟩
    rw [dg15.L0_eq, cnd (by omega), dg15.S1_eq]
    show _ = some (finM b)
    unfold finM
    by_cases h : b < 0
    · rw [cd h, if_pos h]
    · rw [cnd h, if_neg h]
  | succ m ih =>
    intro i n b him hn hb
    obtain ⟨n, rfl⟩ : ∃ n', n = n' + 1 := ⟨n - 1, by omega⟩
    have hi : l[i]? = some l[i] := List.getElem?_eq_getElem (by omega)
    have hw : IntKind.i64.wrap ((i : Int) + 1) = ((i + 1 : Nat) : Int) := by rw [w64 (by omega) (by omega)]; simp
    rw [dg15.L0_eq, cd (by omega), idx_nat, hi]
    simp only [Option.bind_some, drillAt, bestOf, hi]
    generalize ht : l[i] = t
    have key : ∀ (h1 : ¬ isDr x1 x2 t) (hf : x2 ≤ tFlute t), dg15.S0 BIG n l x1 x2 b (i : Int) l (l.length : Int) (i : Int) t =
        some (match drillAt l x1 x2 m (i + 1) with | some j => ((j : Int), true, (0 : Int)) | none => finM (bestOf l x1 x2 m (i + 1) (upB l x1 x2 t b i))) := by
      intro h1 hf
      rw [dg15.S0_eq, dg26_t, hw]
      simp only [Option.bind_some]
      unfold upB
      by_cases hm : MillsT (tKind t) (tRad t) x1
      case neg =>
        rw [decide_eq_false hm, cond_false, if_neg (fun h => hm h.1.2)]
        exact ih (i + 1) n b (by omega) (by omega) (by omega)
      rw [decide_eq_true hm, cond_true]
      by_cases hb0 : b < 0
      · rw [cd hb0, if_pos ⟨⟨hf, hm⟩, .inl hb0⟩]
        exact ih (i + 1) n i (by omega) (by omega) (by omega)
      rw [cnd hb0]
      obtain ⟨e1, e2⟩ := radAt_eq l (b := b) (by omega) (by omega)
      rw [e1, Option.bind_some]
      by_cases hr : tRad t > tRad (l[b.toNat]'(by omega))
      · rw [cd hr, if_pos ⟨⟨hf, hm⟩, .inr (by rw [e2]; exact hr)⟩]
        exact ih (i + 1) n i (by omega) (by omega) (by omega)
      · rw [cnd hr, if_neg (fun h => by exact h.2.elim (fun h => hb0 h) (fun h => by rw [e2] at h; exact hr h))]
        exact ih (i + 1) n b (by omega) (by omega) (by omega)
    by_cases hf : tFlute t < x2
    · rw [cd hf, hw, if_neg (fun h => by have := h.1; omega), ih (i + 1) n b (by omega) (by omega) (by omega)]
      unfold upB
      rw [if_neg (fun h => by have := h.1.1; omega)]
    rw [cnd hf]
    by_cases hk : tKind t = 2
    case neg =>
      rw [show (t.2.1 == (2 : Int)) = false by simpa using hk, cond_false, if_neg (fun h => hk h.2.1)]
      exact key (fun h => hk h.2.1) (by omega)
    rw [show (t.2.1 == (2 : Int)) = true by simpa using hk, cond_true]
    by_cases hr : tRad t = x1
    case neg =>
      rw [show (t.2.2.1 == x1) = false by simpa using hr, cond_false, if_neg (fun h => hr h.2.2)]
      exact key (fun h => hr h.2.2) (by omega)
    rw [show (t.2.2.1 == x1) = true by simpa using hr, cond_true, if_pos ⟨by omega, hk, hr⟩]

include hl in
theorem L17a : ∀ (m i n : Nat), i + m = l.length → m < n → dg17.L0 BIG n l x1 x2 (i : Int) =
    (match drillAt l x1 x2 m i with | some j => some ((j : Int), true, (0 : Int)) | none => dg17.S1 BIG l x1 x2) := by
  intro m
  induction m with
  | zero =>
    intro i n him hn
    obtain ⟨n, rfl⟩ : ∃ n', n = n' + 1 := ⟨n - 1, by omega⟩
    rw [dg17.L0_eq, cnd (by omega)]
    rfl
  | succ m ih =>
    intro i n him hn
    obtain ⟨n, rfl⟩ : ∃ n', n = n' + 1 := ⟨n - 1, by omega⟩
    have hi : l[i]? = some l[i] := List.getElem?_eq_getElem (by omega)
    have hw : IntKind.i64.wrap ((i : Int) + 1) = ((i + 1 : Nat) : Int) := by rw [w64 (by omega) (by omega)]; simp
    rw [dg17.L0_eq, cd (by omega), idx_nat, hi]
    simp only [Option.bind_some, drillAt, hi]
    generalize ht : l[i] = t
    rw [dg17.S0_eq, hw, ih (i + 1) n (by omega) (by omega)]
    by_cases hk : tKind t = 2
    case neg => rw [show (t.2.1 == (2 : Int)) = false by simpa using hk, cond_false, if_neg (fun h => hk h.2.1)]
    rw [show (t.2.1 == (2 : Int)) = true by simpa using hk, cond_true]
    by_cases hr : tRad t = x1
    case neg => rw [show (t.2.2.1 == x1) = false by simpa using hr, cond_false, if_neg (fun h => hr h.2.2)]
    rw [show (t.2.2.1 == x1) = true by simpa using hr, cond_true]
    by_cases hf : tFlute t ≥ x2
    case neg => rw [cnd hf, if_neg (fun h => hf h.1)]
    rw [cd hf, if_pos ⟨hf, hk, hr⟩]

variable (h1 : 1 ≤ x1 ∧ x1 ≤ 9223372036854775807) (hr0 : ∀ t ∈ l, 0 ≤ tRad t ∧ tRad t ≤ 10000000)

include hl h1 hr0 in
theorem L17b : ∀ (m i n : Nat) (b : Int), i + m = l.length → m < n → b < (i : Int) → dg17.L1 BIG n l x1 x2 b (i : Int) = some (finM (bestOf l x1 x2 m i b)) := by
  intro m
  induction m with
  | zero =>
    intro i n b him hn hb
    obtain ⟨n, rfl⟩ : ∃ n', n = n' + 1 := ⟨n - 1, by omega⟩
    rw [dg17.L1_eq, cnd (by omega), dg17.S3_eq]
    show _ = some (finM b)
    unfold finM
    by_cases h : b < 0
    · rw [cd h, if_pos h]
    · rw [cnd h, if_neg h]
  | succ m ih =>
    intro i n b him hn hb
    obtain ⟨n, rfl⟩ : ∃ n', n = n' + 1 := ⟨n - 1, by omega⟩
    have hi : l[i]? = some l[i] := List.getElem?_eq_getElem (by omega)
    have hw : IntKind.i64.wrap ((i : Int) + 1) = ((i + 1 : Nat) : Int) := by rw [w64 (by omega) (by omega)]; simp
    have hrt := hr0 l[i] (List.getElem_mem (by omega))
    rw [dg17.L1_eq, cd (by omega), idx_nat, hi]
    simp only [Option.bind_some, bestOf, hi]
    generalize ht : l[i] = t at hrt
    rw [dg17.S2_eq, dg17.S2_eq, hw, ih (i + 1) n b (by omega) (by omega) (by omega), ih (i + 1) n i (by omega) (by omega) (by omega)]
    unfold upB
    by_cases hf : tFlute t ≥ x2
    case neg => rw [cnd hf, if_neg (fun h => hf h.1.1)]
    rw [cd hf]
    by_cases hp : tRad t > 0
    case neg =>
      rw [cnd hp, if_neg (fun h => ?_)]
      obtain ⟨_, h2, h3⟩ := h.1.2
      rw [w64 (by omega) (by omega)] at h3
      omega
    rw [cd hp, dg29_t]
    simp only [Option.bind_some]
    by_cases hm : MillsT (tKind t) (tRad t) x1
    case neg => rw [decide_eq_false hm, cond_false, if_neg (fun h => hm h.1.2)]
    rw [decide_eq_true hm, cond_true]
    by_cases hb0 : b < 0
    · rw [cd hb0, if_pos ⟨⟨hf, hm⟩, .inl hb0⟩]
    rw [cnd hb0]
    obtain ⟨e1, e2⟩ := radAt_eq l (b := b) (by omega) (by omega)
    rw [e1, Option.bind_some]
    by_cases hr : tRad t > tRad (l[b.toNat]'(by omega))
    · rw [cd hr, if_pos ⟨⟨hf, hm⟩, .inr (by rw [e2]; exact hr)⟩]
    · rw [cnd hr, if_neg (fun h => h.2.elim (fun h => hb0 h) (fun h => by rw [e2] at h; exact hr h))]

/-- What is found has the shape that was looked for. -/
theorem drillAt_spec : ∀ (m i j : Nat), drillAt l x1 x2 m i = some j → ∃ t, l[j]? = some t ∧ isDr x1 x2 t
  | 0, i, j, h => by simp [drillAt] at h
  | m + 1, i, j, h => by
    simp only [drillAt] at h
    split at h
    · rename_i t ht
      split at h
      · rename_i hd
        simp only [Option.some.injEq] at h
        subst h
        exact ⟨t, ht, hd⟩
      · exact drillAt_spec m (i + 1) j h
    · cases h

theorem bestOf_spec : ∀ (m i : Nat) (b : Int), (0 ≤ b → ∃ t, l[b.toNat]? = some t ∧ canMill x1 x2 t) → (0 ≤ bestOf l x1 x2 m i b → ∃ t, l[(bestOf l x1 x2 m i b).toNat]? = some t ∧ canMill x1 x2 t)
  | 0, i, b, hb, h => hb h
  | m + 1, i, b, hb, h => by
    simp only [bestOf] at h ⊢
    cases ht : l[i]? with
    | none =>
      rw [ht] at h
      exact hb h
    | some t =>
      rw [ht] at h
      refine bestOf_spec m (i + 1) _ (fun h0 => ?_) h
      unfold upB at h0 ⊢
      split
      · rename_i hc
        exact ⟨t, by simpa using ht, hc.1⟩
      · rename_i hc
        rw [if_neg hc] at h0
        exact hb h0
end

/-! ## The law -/
theorem dg16_eq (l : List Tl) (hl : l.length < 1000) : dg16 (l, ()) = some l := by
  have e : dg16.S0 BIG l = some l := by
    rw [dg16.S0_eq, cd (by simp [most]; omega), List.nil_append]
  unfold dg16
  rw [dg16.eq, e]
  cases l with
  | nil => simp [both]
  | cons a r => rfl

def matchF (l : List Tl) (x1 x2 : Int) : Int × Bool × Int :=
  if x1 < 1 ∨ x2 < 1 then (0, false, 1) else match drillAt l x1 x2 l.length 0 with | some j => ((j : Int), true, (0 : Int)) | none => finM (bestOf l x1 x2 l.length 0 (-1))

theorem dg15_eq (l : List Tl) (hl : l.length < 1000) (x1 x2 : Int) : dg15 (l, x1, x2, ()) = some (matchF l x1 x2) := by
  unfold dg15 matchF
  rw [dg15.eq]
  by_cases h1 : x1 < 1
  · rw [cd h1, if_pos (.inl h1)]
  rw [cnd h1]
  by_cases h2 : x2 < 1
  · rw [cd h2, if_pos (.inr h2)]
  rw [cnd h2, if_neg (by omega)]
  exact L15 l x1 x2 hl l.length 0 BIG (-1) (by omega) (by unfold BIG; omega) (by omega)

theorem dg17_eq (l : List Tl) (hl : l.length < 1000) (x1 x2 : Int) (hx : x1 ≤ 9223372036854775807) (hr0 : ∀ t ∈ l, 0 ≤ tRad t ∧ tRad t ≤ 10000000) : dg17 (l, x1, x2, ()) = some (matchF l x1 x2) := by
  unfold dg17 matchF
  rw [dg17.eq]
  by_cases h1 : x1 < 1
  · rw [cd (by omega), if_pos (.inl h1)]
  rw [cnd (by omega)]
  by_cases h2 : x2 < 1
  · rw [cd (by omega), if_pos (.inr h2)]
  rw [cnd (by omega), if_neg (by omega)]
  have a := L17a l x1 x2 hl l.length 0 BIG (by omega) (by unfold BIG; omega)
  have b := L17b l x1 x2 hl ⟨by omega, hx⟩ hr0 l.length 0 BIG (-1) (by omega) (by unfold BIG; omega) (by omega)
  rw [show ((0 : Nat) : Int) = 0 from rfl] at a b
  rw [a, dg17.S1_eq, b]
  cases drillAt l x1 x2 l.length 0 <;> rfl

theorem L5 (l : List Tl) (hl : l.length ≤ 12) (x1 x2 : Int) (fin : (∀ t ∈ l, 0 ≤ tRad t ∧ tRad t ≤ 10000000) → dg5.S0 BIG l x1 x2 = some true) :
    ∀ (m i n : Nat), i + m = l.length → m < n → (∀ j (h : j < l.length), j < i → 0 ≤ tRad l[j] ∧ tRad l[j] ≤ 10000000) → dg5.L0 BIG n l x1 x2 l (l.length : Int) (i : Int) = some true := by
  intro m
  induction m with
  | zero =>
    intro i n him hn hp
    obtain ⟨n, rfl⟩ : ∃ n', n = n' + 1 := ⟨n - 1, by omega⟩
    rw [dg5.L0_eq, cnd (by omega)]
    refine fin fun t ht => ?_
    obtain ⟨j, hj, rfl⟩ := List.mem_iff_getElem.1 ht
    exact hp j hj (by omega)
  | succ m ih =>
    intro i n him hn hp
    obtain ⟨n, rfl⟩ : ∃ n', n = n' + 1 := ⟨n - 1, by omega⟩
    have hi : l[i]? = some l[i] := List.getElem?_eq_getElem (by omega)
    rw [dg5.L0_eq, cd (by omega), idx_nat, hi]
    simp only [Option.bind_some]
    by_cases h1 : tRad l[i] < 0
    · exact cd h1 _ _
    rw [cnd h1]
    by_cases h2 : tRad l[i] > 10000000
    · exact cd h2 _ _
    rw [cnd h2, w64 (by omega) (by omega), show ((i : Int) + 1) = ((i + 1 : Nat) : Int) by simp]
    refine ih (i + 1) n (by omega) (by omega) fun j hj hji => ?_
    by_cases e : j = i
    · subst e; exact ⟨by omega, by omega⟩
    · exact hp j hj (by omega)

theorem dg5_S0 (l : List Tl) (hl : l.length ≤ 12) (x1 x2 : Int) (hx1 : x1 ≤ 9223372036854775807) (hx2 : x2 ≤ 9223372036854775807) (hr0 : ∀ t ∈ l, 0 ≤ tRad t ∧ tRad t ≤ 10000000) : dg5.S0 BIG l x1 x2 = some true := by
  rw [dg5.S0_eq, dg16_eq l (by omega)]
  simp only [Option.bind_some]
  rw [dg15_eq l (by omega), dg17_eq l (by omega) x1 x2 hx1 hr0]
  simp only [Option.bind_some, bne_self_eq_false, cond_false, beq_self_eq_true, Bool.not_true]
  by_cases he : (matchF l x1 x2).2.2 = 0
  case neg => rw [show ((matchF l x1 x2).2.2 != 0) = true by simpa using he, cond_true]
  rw [he, bne_self_eq_false, cond_false]
  have hx : ¬ (x1 < 1 ∨ x2 < 1) := fun h => by
    unfold matchF at he
    rw [if_pos h] at he
    simp at he
  have hpick : ∃ (j : Nat) (t : Tl), l[j]? = some t ∧ ((matchF l x1 x2 = ((j : Int), true, (0 : Int)) ∧ isDr x1 x2 t) ∨ (matchF l x1 x2 = ((j : Int), false, (0 : Int)) ∧ canMill x1 x2 t)) := by
    unfold matchF at he ⊢
    rw [if_neg hx] at he ⊢
    cases hd : drillAt l x1 x2 l.length 0 with
    | some j =>
      obtain ⟨t, h1, h2⟩ := drillAt_spec l x1 x2 _ _ _ hd
      exact ⟨j, t, h1, .inl ⟨rfl, h2⟩⟩
    | none =>
      rw [hd] at he
      simp only at he ⊢
      unfold finM at he ⊢
      by_cases hb : bestOf l x1 x2 l.length 0 (-1) < 0
      · rw [if_pos hb] at he
        simp at he
      · rw [if_neg hb]
        obtain ⟨t, h1, h2⟩ := bestOf_spec l x1 x2 l.length 0 (-1) (fun h => by omega) (by omega)
        exact ⟨_, t, h1, .inr ⟨by rw [Int.toNat_of_nonneg (by omega)], h2⟩⟩
  obtain ⟨j, t, hj, hpick⟩ := hpick
  have e1 : (matchF l x1 x2).1 = (j : Int) := by rcases hpick with h | h <;> rw [h.1]
  rw [e1, idx_nat, hj]
  simp only [Option.bind_some]
  obtain ⟨num, kind, rad, flute, len, step, feed, plunge, _⟩ := t
  rw [dg18_eq]
  simp only [Option.bind_some]
  by_cases hg : GoodT num kind rad flute len step feed plunge
  case neg => rw [decide_eq_false hg, beq_self_eq_true, cond_true]
  rw [decide_eq_true hg, show (true == false) = false from rfl, cond_false]
  by_cases h1 : x1 > 1000000
  · exact cd h1 _ _
  rw [cnd h1]
  by_cases h2 : x2 > 20000
  · exact cd h2 _ _
  rw [cnd h2]
  by_cases h3 : step < 500
  · exact cd h3 _ _
  rw [cnd h3]
  have hgr := hg.hrad
  have hgs := hg.hstep
  unfold LenOk at hgr hgs
  rcases hpick with ⟨e, hf, hk, hr⟩ | ⟨e, hf, hm⟩
  · rw [e, cond_true, dg19_eq (by omega) (by omega), Option.bind_some, dg5.S1_eq]
    simp only [tFlute, tKind, tRad] at hf hk hr
    unfold peckF
    rw [if_neg (fun h => by rcases h with h | h | h | h | h <;> first | exact h hg | exact h hk | omega), if_neg (by omega), if_neg (fun h => h ⟨by unfold InOk; omega, by unfold InOk; omega, by unfold InOk; omega, by unfold InOk; omega⟩)]
    have : (pecksF x2 x2).2 = 0 := by
      unfold pecksF
      rw [if_neg (by omega), if_neg (by rw [Int.ediv_eq_zero_of_lt (by omega) (by omega)]; omega)]
    rw [if_neg (fun h => h this)]
    rfl
  · rw [e, cond_false, dg12_eq (by omega), Option.bind_some, dg5.S1_eq]
    simp only [tFlute, tKind, tRad] at hf hm
    obtain ⟨hk, hm1, hm2⟩ := id hm
    rw [w64 (by omega) (by omega)] at hm2
    have h3' : (500 : Int) ≤ step := Int.not_lt.1 h3
    have hn : (x2 + step - 1) / step ≤ 40 := by
      have : (x2 + step - 1) / step < 41 := Int.ediv_lt_of_lt_mul (by omega) (by omega)
      omega
    unfold boreF
    rw [if_neg (fun h => by rcases h with h | h | h | h | h <;> first | exact h hg | exact h hk | omega), if_neg (fun h => h.elim (fun h => by omega) (fun h => h hm)), if_neg (fun h => h ⟨by unfold InOk; omega, by unfold InOk; omega, by unfold InOk; omega, by unfold InOk; omega⟩),
      if_neg (fun h => h ⟨by unfold InOk; omega, by unfold InOk; omega, by unfold InOk; omega, by unfold InOk; omega⟩), if_neg (by omega)]
    rfl

theorem dg5_ab (l : List Tl) (x1 x2 : Int) (h1 : x1 ≤ 9223372036854775807) (h2 : x2 ≤ 9223372036854775807) : dg5.N BIG (l, x1, x2, ()) = some true := by
  rw [dg5.eq, awake_ok]
  simp only [Option.bind_some, Bool.not_true, cond_false]
  by_cases hl : (l.length : Int) > 12
  · exact cd hl _ _
  rw [cnd hl]
  exact L5 l (by omega) x1 x2 (dg5_S0 l (by omega) x1 x2 h1 h2) l.length 0 BIG (by omega) (by unfold BIG; omega) (fun j hj hji => by omega)

theorem dg5_true (x : DenA dg5.A) (h : WfA dg5.A x) : dg5 x = some true := by
  obtain ⟨l, a, b, _⟩ := x
  exact dg5_ab l a b (wf64 h.2.1).2 (wf64 h.2.2.1).2
end Go.Ev
