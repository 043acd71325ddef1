/-
  THE EVALUATOR, PART K: regions (in the text's order, and in whatever order their edges allow), code, functions: 'sound_of'.
-/
import Derived.Test.YthappjffpkpojaaEvJ
import Derived.LoopN
import Derived.Laws.Cover3
namespace Go.Ev
open Go Go.RowKit
set_option linter.unusedVariables false
set_option linter.unusedSimpArgs false

/-! ## Frames that read alike -/
def Eqv (F G : Fr) : Prop := getE F.v = getE G.v ∧ getB F.b = getB G.b

theorem Eqv.refl (F : Fr) : Eqv F F := ⟨rfl, rfl⟩
theorem Eqv.symm {F G : Fr} (h : Eqv F G) : Eqv G F := ⟨h.1.symm, h.2.symm⟩
theorem Eqv.trans {F G H : Fr} (h : Eqv F G) (k : Eqv G H) : Eqv F H := ⟨h.1.trans k.1, h.2.trans k.2⟩

def lastE : List (Nat × Ent) → Nat → Option Ent
  | [], _ => none
  | (k, e) :: r, s => match lastE r s with
    | some x => some x
    | none => if k = s then some e else none

def lastB : List (Nat × Box) → Nat → Option Box
  | [], _ => none
  | (k, e) :: r, s => match lastB r s with
    | some x => some x
    | none => if k = s then some e else none

theorem getE_setEs : ∀ (us : List (Nat × Ent)) (v : List (Nat × Ent)) (s : Nat), getE (setEs v us) s = (lastE us s).getD (getE v s)
  | [], v, s => rfl
  | (k, e) :: r, v, s => by
    simp only [setEs, lastE]
    rw [getE_setEs r]
    cases lastE r s with
    | some x => rfl
    | none =>
      simp only [Option.getD_none]
      rw [getE_setE]
      by_cases h : k = s
      · subst h; simp
      · rw [if_neg (fun e => h e.symm), if_neg h]; rfl

theorem getB_setBs : ∀ (us : List (Nat × Box)) (v : List (Nat × Box)) (s : Nat), getB (setBs v us) s = (lastB us s).or (getB v s)
  | [], v, s => rfl
  | (k, e) :: r, v, s => by
    simp only [setBs, lastB]
    rw [getB_setBs r]
    cases lastB r s with
    | some x => rfl
    | none =>
      simp only [Option.none_or]
      rw [getB_setB]
      by_cases h : k = s
      · subst h; simp
      · rw [if_neg (fun e => h e.symm), if_neg h]; rfl

theorem lastE_keys {us : List (Nat × Ent)} {ws : List Nat} (h : Writes us ws) {s : Nat} (hs : s ∉ ws) : lastE us s = none := by
  induction us with
  | nil => rfl
  | cons p r ih =>
    obtain ⟨k, e⟩ := p
    simp only [lastE]
    rw [ih fun q hq => h q (by simp [hq])]
    have : k ∈ ws := h (k, e) (by simp)
    rw [if_neg (fun (hk : k = s) => hs (by rw [← hk]; exact this))]

theorem Fr.app_v (F : Fr) (δ : Delta) (h : δ.purge = none) (s : Nat) : getE (F.app δ).v s = (lastE δ.us s).getD (getE F.v s) := by
  simp only [Fr.app, h]; exact getE_setEs _ _ _

theorem Fr.app_b (F : Fr) (δ : Delta) (s : Nat) : getB (F.app δ).b s = (lastB δ.bs s).or (getB F.b s) := getB_setBs _ _ _

theorem app_congr {F G : Fr} (h : Eqv F G) (δ : Delta) : Eqv (F.app δ) (G.app δ) := by
  constructor
  · funext s
    simp only [Fr.app]
    rw [getE_setEs, getE_setEs]
    cases δ.purge with
    | none => simp only; rw [h.1]
    | some d => simp only; rw [getE_purgeE, getE_purgeE, h.1]
  · funext s
    rw [Fr.app_b, Fr.app_b, h.2]

section
variable {P : Program} {tt : TT} {Γ : List Con} {w0 w w' : World} {c0 : En} {n : Nat} {F G : Fr} {a : Act} {col : Col} {blk : Nat → Nat} {o : Oper} {δ : Delta}

theorem Rel.congr (h : Eqv F G) (hr : Rel w0 c0 n F a w col blk) : Rel w0 c0 n G a w col blk :=
  ⟨hr.below, hr.old, hr.fix, hr.pin, fun s => by rw [← h.1]; exact hr.ents s, fun k bx hk => hr.boxes k bx (by rw [h.2]; exact hk), hr.defers, hr.size⟩

theorem set_self {v : List (Nat × Ent)} {g : Nat} {e : Ent} (h : getE v g = e) : getE (setE v g e) = getE v := by
  funext s
  rw [getE_setE]
  split
  · rename_i hs; subst hs; exact h.symm
  · rfl

/-! ## One step -/
/-- What a step does, guard and all. -/
def eff (Γ : List Con) (tt : TT) (ops : List Oper) (o : Oper) (F : Fr) : Option Delta := match o.guard with
  | none => core Γ tt (takes tt ops o) (getE F.v) (getB F.b) o some
  | some (j, want) => match (ops[j]?).bind (·.dst) with
    | some g => (match getE F.v g with
      | .val ⟨.bool, b⟩ _ => if b = want then core Γ tt (takes tt ops o) (getE F.v) (getB F.b) o some else some { us := o.dst.toList.map fun d => (d, .tup []) }
      | .tup [] => some { us := o.dst.toList.map fun d => (d, .tup []) }
      | _ => none)
    | none => none

theorem app_skip (F : Fr) (o : Oper) : F.app { us := o.dst.toList.map fun d => (d, .tup []) } = (match o.dst with | some d => ⟨setE F.v d (.tup []), F.b⟩ | none => F) := by
  cases o.dst <;> rfl

theorem step_some {R : Type} {ops : List Oper} {k : Fr → Option R} {r : R} (hn : nilOp o = none) (hmo : mOp Γ o = false) (h : step Γ tt ops o F k = some r) : ∃ δ F', eff Γ tt ops o F = some δ ∧ Eqv F' (F.app δ) ∧ k F' = some r := by
  have go : ∀ G : Fr, Eqv G F → core Γ tt (takes tt ops o) (getE G.v) (getB G.b) o (fun δ => k (G.app δ)) = some r →
      ∃ δ F', core Γ tt (takes tt ops o) (getE F.v) (getB F.b) o some = some δ ∧ Eqv F' (F.app δ) ∧ k F' = some r := fun G hG hh => by
    rw [core_bind] at hh
    rw [hG.1, hG.2] at hh
    cases hc : core Γ tt (takes tt ops o) (getE F.v) (getB F.b) o some with
    | none => rw [hc] at hh; cases hh
    | some δ => rw [hc] at hh; exact ⟨δ, _, rfl, app_congr hG δ, hh⟩
  have skip : ∀ G : Fr, Eqv G F → (match o.dst with | some d => k ⟨setE G.v d (.tup []), G.b⟩ | none => k G) = some r →
      ∃ δ F', (some { us := o.dst.toList.map fun d => (d, .tup []) } : Option Delta) = some δ ∧ Eqv F' (F.app δ) ∧ k F' = some r := fun G hG hh => by
    refine ⟨_, G.app { us := o.dst.toList.map fun d => (d, .tup []) }, rfl, app_congr hG _, ?_⟩
    rw [app_skip]
    cases hd : o.dst with
    | none => rw [hd] at hh; exact hh
    | some d => rw [hd] at hh; exact hh
  unfold step at h
  rw [hn, hmo] at h
  simp only at h
  unfold stepG at h
  unfold eff
  cases hg : o.guard with
  | none => rw [hg] at h; exact go F (Eqv.refl F) h
  | some p =>
    obtain ⟨j, want⟩ := p
    rw [hg] at h
    simp only at h ⊢
    cases hj : (ops[j]?).bind (·.dst) with
    | none => rw [hj] at h; cases h
    | some g =>
      rw [hj] at h
      simp only at h ⊢
      split at h
      · rename_i b own hb
        rw [hb]
        simp only
        have hs : ∀ q, q = b → Eqv ⟨setE F.v g (.val ⟨.bool, q⟩ own), F.b⟩ F := fun q hq => ⟨set_self (by rw [hq]; exact hb), rfl⟩
        cases b with
        | true =>
          simp only [cond_true] at h
          cases want with
          | true => rw [if_pos rfl]; exact go _ (hs true rfl) h
          | false => rw [if_neg (by simp)]; exact skip _ (hs true rfl) h
        | false =>
          simp only [cond_false] at h
          cases want with
          | true => rw [if_neg (by simp)]; exact skip _ (hs false rfl) h
          | false => rw [if_pos rfl]; exact go _ (hs false rfl) h
      · rename_i hb
        rw [hb]
        exact skip F (Eqv.refl F) h
      · cases h

theorem yielded_of {arr : Array Oper} {j g : Nat} (hr : Rel w0 c0 n F a w col blk) (hj : (arr.toList[j]?).bind (·.dst) = some g) {b : Bool} {own : Bool} (hb : getE F.v g = .val ⟨.bool, b⟩ own) : yielded arr a.tmps j = some b := by
  have he := hr.ents g
  rw [hb] at he
  have hv := repV_bool he.1
  have hj' : (arr[j]?).bind (·.dst) = some g := by rw [← Array.getElem?_toList]; exact hj
  unfold yielded
  rw [hj']
  simp only [Option.bind_some]
  have hlt : g < a.tmps.size := by
    rcases Nat.lt_or_ge g a.tmps.size with h | h
    · exact h
    · simp [Array.getD, Nat.not_lt.2 h, undef] at hv
  have : a.tmps[g]? = some (.bool b) := by
    rw [Array.getElem?_eq_getElem hlt]
    simp [Array.getD, hlt] at hv
    rw [hv]
  rw [this]

theorem yielded_off {arr : Array Oper} {j g : Nat} (hr : Rel w0 c0 n F a w col blk) (hj : (arr.toList[j]?).bind (·.dst) = some g) (hb : getE F.v g = .tup []) : yielded arr a.tmps j = none := by
  have he := hr.ents g
  rw [hb] at he
  obtain ⟨vs, hv, hall⟩ := he
  cases hall
  have hj' : (arr[j]?).bind (·.dst) = some g := by rw [← Array.getElem?_toList]; exact hj
  unfold yielded
  rw [hj']
  simp only [Option.bind_some]
  cases hg : a.tmps[g]? with
  | none => rfl
  | some v =>
    have : a.tmps.getD g undef = v := by
      obtain ⟨h1, h2⟩ := Array.getElem?_eq_some_iff.1 hg
      simp [Array.getD, h1, h2]
    rw [this] at hv
    subst hv
    rfl

/-- ONE STEP, in the machine. -/
theorem eff_ok {arr : Array Oper} (hT : TTok P tt) (hΓ : ∀ c ∈ Γ, SoundAt P w0 c) (hr : Rel w0 c0 n F a w col blk) (hd : ∀ d, o.dst = some d → d < n) (h : eff Γ tt arr.toList o F = some δ)
    {K : Act → World → Prop} {Q : Exit → Act → World → Prop} (hK : ∀ a' w' col' blk', Rel w0 c0 n (F.app δ) a' w' col' blk' → K a' w') :
    if Region.wanted o (yielded arr a.tmps) then o.wp P a w K Q else K (a.put o.dst undef) w := by
  unfold eff at h
  cases hg : o.guard with
  | none =>
    rw [hg] at h
    rw [if_pos (by simp [Region.wanted, hg])]
    exact core_ok hT hΓ hr hd h K Q hK
  | some p =>
    obtain ⟨j, want⟩ := p
    rw [hg] at h
    simp only at h
    cases hj : (arr.toList[j]?).bind (·.dst) with
    | none => rw [hj] at h; cases h
    | some g =>
      rw [hj] at h
      simp only at h
      split at h
      · rename_i b own hb
        have hy := yielded_of hr hj hb
        have hw : Region.wanted o (yielded arr a.tmps) = (some b == some want) := by simp [Region.wanted, hg, hy]
        rw [hw]
        by_cases hbw : b = want
        · rw [if_pos hbw] at h
          rw [if_pos (by simp [hbw])]
          exact core_ok hT hΓ hr hd h K Q hK
        · rw [if_neg hbw] at h
          rw [if_neg (by simp [hbw])]
          simp only [Option.some.injEq] at h
          subst h
          rw [app_skip] at hK
          cases hdst : o.dst with
          | none => rw [hdst] at hK; exact hK a w col blk hr
          | some d => rw [hdst] at hK; exact hK _ w col blk (hr.put0 (hd d hdst) ⟨[], rfl, .nil⟩)
      · rename_i hb
        have hy := yielded_off hr hj hb
        rw [if_neg (by simp [Region.wanted, hg, hy])]
        simp only [Option.some.injEq] at h
        subst h
        rw [app_skip] at hK
        cases hdst : o.dst with
        | none => rw [hdst] at hK; exact hK a w col blk hr
        | some d => rw [hdst] at hK; exact hK _ w col blk (hr.put0 (hd d hdst) ⟨[], rfl, .nil⟩)
      · cases h

/-! ### a slice against nil -/
def wantE (ops : List Oper) (o : Oper) (F : Fr) : Option Bool := match o.guard with
  | none => some true
  | some (j, want) => match (ops[j]?).bind (·.dst) with
    | some g => (match getE F.v g with
      | .val ⟨.bool, b⟩ _ => some (b == want)
      | .tup [] => some false
      | _ => none)
    | none => none

theorem stepG_some {R : Type} {go : Fr → Option R} {ops : List Oper} {k : Fr → Option R} {r : R} (h : stepG go ops o F k = some r) :
    (wantE ops o F = some true ∧ ∃ G, Eqv G F ∧ go G = some r) ∨ (wantE ops o F = some false ∧ ∃ G, Eqv G (match o.dst with | some d => ⟨setE F.v d (.tup []), F.b⟩ | none => F) ∧ k G = some r) := by
  have skip : ∀ G : Fr, Eqv G F → (match o.dst with | some d => k ⟨setE G.v d (.tup []), G.b⟩ | none => k G) = some r →
      ∃ G, Eqv G (match o.dst with | some d => ⟨setE F.v d (.tup []), F.b⟩ | none => F) ∧ k G = some r := fun G hG hh => by
    cases hd : o.dst with
    | none => rw [hd] at hh; exact ⟨G, hG, hh⟩
    | some d =>
      rw [hd] at hh
      have := app_congr hG { us := [(d, .tup [])] }
      exact ⟨_, this, hh⟩
  unfold stepG at h
  unfold wantE
  cases hg : o.guard with
  | none => rw [hg] at h; exact .inl ⟨rfl, F, Eqv.refl F, h⟩
  | some p =>
    obtain ⟨j, want⟩ := p
    rw [hg] at h
    simp only at h ⊢
    cases hj : (ops[j]?).bind (·.dst) with
    | none => rw [hj] at h; cases h
    | some g =>
      rw [hj] at h
      simp only at h ⊢
      split at h
      · rename_i b own hb
        rw [hb]
        simp only
        have hs : ∀ q, q = b → Eqv ⟨setE F.v g (.val ⟨.bool, q⟩ own), F.b⟩ F := fun q hq => ⟨set_self (by rw [hq]; exact hb), rfl⟩
        cases b with
        | true =>
          simp only [cond_true] at h
          cases want with
          | true => exact .inl ⟨rfl, _, hs true rfl, h⟩
          | false => exact .inr ⟨rfl, skip _ (hs true rfl) h⟩
        | false =>
          simp only [cond_false] at h
          cases want with
          | true => exact .inr ⟨rfl, skip _ (hs false rfl) h⟩
          | false => exact .inl ⟨rfl, _, hs false rfl, h⟩
      · rename_i hb
        rw [hb]
        exact .inr ⟨rfl, skip F (Eqv.refl F) h⟩
      · cases h

theorem wantE_ok {arr : Array Oper} (hr : Rel w0 c0 n F a w col blk) {b : Bool} (h : wantE arr.toList o F = some b) : Region.wanted o (yielded arr a.tmps) = b := by
  unfold wantE at h
  cases hg : o.guard with
  | none => rw [hg] at h; simp only [Option.some.injEq] at h; subst h; simp [Region.wanted, hg]
  | some p =>
    obtain ⟨j, want⟩ := p
    rw [hg] at h
    simp only at h
    cases hj : (arr.toList[j]?).bind (·.dst) with
    | none => rw [hj] at h; cases h
    | some g =>
      rw [hj] at h
      simp only at h
      split at h
      · rename_i q own hb
        have hy := yielded_of hr hj hb
        simp only [Option.some.injEq] at h
        subst h
        simp [Region.wanted, hg, hy]
      · rename_i hb
        have hy := yielded_off hr hj hb
        simp only [Option.some.injEq] at h
        subst h
        simp [Region.wanted, hg, hy]
      · cases h

theorem both_some {R : Type} {x y : Option R} {r : R} (h : both x y = some r) : x = some r ∧ y = some r := by
  unfold both at h
  split at h
  · rename_i p q
    split at h
    · rename_i e
      subst e
      exact ⟨h, h⟩
    · cases h
  · cases h

theorem nilK_ok {R : Type} (hT : TTok P tt) {k : Fr → Option R} {r : R} {t : Nat} {x : Operand} {pol : Bool} (hn : nilOp o = some (t, x, pol)) (hr : Rel w0 c0 n F a w col blk) (hd : ∀ d, o.dst = some d → d < n)
    (h : nilK tt k o t x pol F = some r) {K : Act → World → Prop} {Q : Exit → Act → World → Prop}
    (hK : ∀ F' a' w' col' blk', Rel w0 c0 n F' a' w' col' blk' → k F' = some r → K a' w') : o.wp P a w K Q := by
  unfold nilK at h
  split at h
  · rename_i d ti e xs own hdst htt hent
    have hop := opn (tt := tt) hr t x
    rw [hent] at hop
    cases hc : decide (ti.ty = .sl e) with
    | false => rw [hc] at h; cases h
    | true =>
      rw [hc] at h
      simp only [cond_true] at h
      have hty : ti.ty = .sl e := of_decide_eq_true hc
      have hund : ∃ u, P.underlying t = some (.slice u) := by
        have := (hT t ti htt).desc
        rw [hty] at this
        exact ⟨_, this.1⟩
      obtain ⟨u, hund⟩ := hund
      obtain ⟨⟨cs, ⟨v, hcs, hv⟩, hval⟩, _⟩ := hop
      have hval' : a.eval x = v := by
        rcases hval with ⟨h, _⟩ | ⟨_, h⟩
        · simp [Ty.agg] at h
        · rw [hcs] at h; exact (List.cons.inj h).1.symm
      have hrun : ∀ ad l c, a.eval x = .slice ad l c → (execOp a.eval o).run P w = .ok (.value (.bool (ad.isNone == pol))) w := fun ad l c he => by
        unfold nilOp at hn
        split at hn
        · rename_i t' x' y' hop
          simp only [Option.some.injEq, Prod.mk.injEq] at hn
          obtain ⟨rfl, rfl, rfl⟩ := hn
          unfold execOp
          rw [hop]
          simp only [he, show a.eval (.const (.slice none 0 0)) = .slice none 0 0 from rfl]
          simp [eqGuard, binOp, run_equal_slice_nil w _ u ad l c hund]
        · rename_i t' x' y' hop
          simp only [Option.some.injEq, Prod.mk.injEq] at hn
          obtain ⟨rfl, rfl, rfl⟩ := hn
          unfold execOp
          rw [hop]
          simp only [he, show a.eval (.const (.slice none 0 0)) = .slice none 0 0 from rfl]
          simp [eqGuard, binOp, run_equal_slice_nil w _ u ad l c hund]
        · cases hn
      have fin : ∀ q, (execOp a.eval o).run P w = .ok (.value (.bool q)) w → k ⟨setE F.v d (.val ⟨.bool, q⟩ false), F.b⟩ = some r → o.wp P a w K Q := fun q hq hk =>
        (good_of (F' := ⟨setE F.v d (.val ⟨.bool, q⟩ false), F.b⟩) hq (by rw [hdst]; exact hr.put0 (hd d hdst) ⟨⟨_, rfl, .inr ⟨rfl, rfl⟩⟩, fun h => by simp at h⟩)) K Q fun a' w' col' blk' hr' => hK _ a' w' col' blk' hr' hk
      have hb : ∀ b : Bool, (true == b) = b := fun b => by cases b <;> rfl
      have hb' : ∀ b : Bool, (false == b) = !b := fun b => by cases b <;> rfl
      rcases hv with ⟨hv, hxs⟩ | ⟨b, off, cap, es, hv, hcap, hl, _, _⟩
      · subst hxs
        simp only [List.isEmpty_nil, cond_true] at h
        have h1 := hrun none 0 0 (by rw [hval', hv])
        rw [Option.isNone_none, hb] at h1
        exact fin _ h1 (both_some h).1
      · have h1 := hrun _ _ _ (by rw [hval', hv])
        rw [Option.isNone_some, hb'] at h1
        refine fin _ h1 ?_
        cases hx : xs.isEmpty with
        | true => rw [hx] at h; exact (both_some h).2
        | false => rw [hx] at h; exact h
  · cases h

/-! ## Calls that turn a variable of the caller's -/
theorem sameNats_eq : ∀ {a b : List Nat}, sameNats a b = true → a = b
  | [], [], _ => rfl
  | a :: r, b :: s, h => by
    simp only [sameNats, Bool.and_eq_true] at h
    rw [Nat.eq_of_beq_eq_true h.1, sameNats_eq h.2]
  | [], _ :: _, h => by simp [sameNats] at h
  | _ :: _, [], h => by simp [sameNats] at h

theorem findM_some {g : Nat} : ∀ {l : List Con} {c : Con}, findM g l = some c → c ∈ l ∧ c.f = g
  | [], c, h => by simp [findM] at h
  | d :: r, c, h => by
    simp only [findM] at h
    cases hd : Nat.beq d.f g && d.mu.isSome with
    | true =>
      rw [hd] at h
      simp only [cond_true, Option.some.injEq] at h
      subst h
      rw [Bool.and_eq_true] at hd
      exact ⟨by simp, Nat.eq_of_beq_eq_true hd.1⟩
    | false =>
      rw [hd] at h
      have := findM_some (l := r) h
      exact ⟨List.mem_cons_of_mem _ this.1, this.2⟩

theorem valsOf_ok {w : World} {col : Col} {blk : Nat → Nat} {B : Nat} : ∀ {es : List Ent} {as : List Arg} {vs : List Value}, valsOf es = some as → All2 (fun e v => ∃ s, EntOk w col blk B s e v) es vs →
    All2 (fun (A : Arg) v => ∃ d, A = .val d ∧ RepV w (Imm col) d.t d.x v) as vs
  | [], as, vs, h, ha => by
    simp only [valsOf, Option.some.injEq] at h
    subst h
    cases ha
    exact .nil
  | .val d own :: r, as, vs, h, ha => by
    simp only [valsOf] at h
    split at h
    · rename_i l hl
      simp only [Option.some.injEq] at h
      subst h
      cases ha with
      | cons p q => exact .cons ⟨d, rfl, p.choose_spec.1⟩ (valsOf_ok hl q)
    · cases h
  | .undef :: _, _, _, h, _ | .ref _ _ :: _, _, _, h, _ | .peek _ :: _, _, _, h, _ | .clo _ _ :: _, _, _, h, _ | .tup _ :: _, _, _, h, _ | .full _ :: _, _, _, h, _ => by simp [valsOf] at h

theorem decA_mrep {w : World} {col : Col} {B k b : Nat} {own : List Nat} {t : Ty} {y : t.den} (hb : BoxOk w col (fun _ => b) B k ⟨t, y, own⟩) : ∀ {as : List Arg} {cs : List ATy} {vs : List Value} {x : DenA cs}, decA cs (as ++ [.val ⟨t, y⟩]) = some x →
    All2 (fun (A : Arg) v => ∃ d, A = .val d ∧ RepV w (Imm col) d.t d.x v) as vs → MRep w col B k b own cs x vs
  | [], cs, vs, x, h, ha => by
    cases ha
    cases cs with
    | nil => simp [decA] at h
    | cons c r =>
      simp only [List.nil_append, decA] at h
      split at h
      · rename_i p q h1 h2
        simp only [Option.some.injEq] at h
        subst h
        cases r with
        | nil =>
          cases c with
          | v u =>
            simp only [decArg] at h1
            have := as_some h1
            cases this
            exact ⟨rfl, hb⟩
          | pk u => simp [decArg] at h1
          | cl f cs => simp [decArg] at h1
        | cons c' r' => simp [decA] at h2
      · cases h
  | A :: as, cs, vs, x, h, ha => by
    cases ha with
    | cons p q =>
      rename_i v vs'
      cases cs with
      | nil => simp [decA] at h
      | cons c r =>
        simp only [List.cons_append, decA] at h
        split at h
        · rename_i p' q' h1 h2
          simp only [Option.some.injEq] at h
          subst h
          obtain ⟨d, rfl, hd⟩ := p
          have hrec := decA_mrep hb h2 q
          cases r with
          | nil => simp [MRep] at hrec
          | cons c' r' =>
            cases c with
            | v u =>
              simp only [decArg] at h1
              have := as_some h1
              rw [this] at hd
              exact ⟨v, vs', rfl, hd, hrec⟩
            | pk u => simp [decArg] at h1
            | cl f cs => simp [decArg] at h1
        · cases h

theorem All2.of_get {α β : Type} {R : α → β → Prop} : ∀ {xs : List α} {ys : List β}, xs.length = ys.length → (∀ (i : Nat) x y, xs[i]? = some x → ys[i]? = some y → R x y) → All2 R xs ys
  | [], [], _, _ => .nil
  | x :: r, y :: s, hl, h => .cons (h 0 x y rfl rfl) (All2.of_get (by simpa using hl) fun i x y hx hy => h (i + 1) x y (by simpa using hx) (by simpa using hy))
  | [], _ :: _, hl, _ => by simp at hl
  | _ :: _, [], hl, _ => by simp at hl

theorem All2.get2 {α β : Type} {R : α → β → Prop} {xs : List α} {ys : List β} (h : All2 R xs ys) : ∀ (i : Nat) x y, xs[i]? = some x → ys[i]? = some y → R x y := by
  induction h with
  | nil => intro i x y hx; simp at hx
  | cons p _ ih =>
    intro i x y hx hy
    cases i with
    | zero => simp only [List.getElem?_cons_zero, Option.some.injEq] at hx hy; subst hx; subst hy; exact p
    | succ i => exact ih i x y (by simpa using hx) (by simpa using hy)

theorem mK_ok {R : Type} {k : Fr → Option R} {r : R} {c : Con} (hc : c ∈ Γ) (hΓ : ∀ c ∈ Γ, SoundAt P w0 c) (hr : Rel w0 c0 n F a w col blk) (hd : ∀ d, o.dst = some d → d < n) {es : List Ent} {vs : List Value}
    (h : mK k o F c es = some r) (hes : All2 (fun e v => ∃ s, EntOk w col blk w0.heap.size s e v) es vs) (hrun : (execOp a.eval o).run P w = .ok (.enter c.f vs.toArray) w)
    {K : Act → World → Prop} {Q : Exit → Act → World → Prop} (hK : ∀ F' a' w' col' blk', Rel w0 c0 n F' a' w' col' blk' → k F' = some r → K a' w') : o.wp P a w K Q := by
  unfold mK at h
  split at h
  · cases h
  rename_i pos cl own hmu
  split at h
  case h_2 => cases h
  rename_i kk hpos0
  obtain ⟨pe, hpos, hkk⟩ := Option.bind_eq_some_iff.1 hpos0
  split at h
  case h_2 => cases h
  rename_i bx hbx
  cases hown : sameNats bx.own own with
  | false => rw [hown] at h; cases h
  | true =>
  rw [hown] at h
  simp only [cond_true] at h
  split at h
  case h_2 => cases h
  rename_i as has
  split at h
  case h_2 => cases h
  rename_i x hx
  cases hfn : c.fn x with
  | none => rw [hfn] at h; cases h
  | some y =>
  rw [hfn] at h
  simp only [Option.bind_some] at h
  split at h
  case h_2 => cases h
  rename_i ds z d hsp hdst
  have hlen := hes.length
  have hp : pos < es.length := (List.getElem?_eq_some_iff.1 hpos).1
  obtain ⟨pv, hpv⟩ : ∃ pv, vs[pos]? = some pv := ⟨vs[pos]'(by omega), List.getElem?_eq_getElem (by omega)⟩
  obtain ⟨_, hptr⟩ := hes.get2 pos _ _ hpos hpv
  have hptr' : pv = muV cl (blk kk) := by
    unfold muBox at hkk
    split at hkk
    · simp only [Option.some.injEq] at hkk
      subst hkk
      exact hptr
    · rename_i g g' b
      cases hg : Nat.beq g g' with
      | false => rw [hg] at hkk; cases hkk
      | true =>
        rw [hg] at hkk
        simp only [cond_true, Option.some.injEq] at hkk
        subst hkk
        have := Nat.eq_of_beq_eq_true hg
        subst this
        obtain ⟨vs', rfl, ha⟩ := hptr
        match vs', ha with
        | [v'], .cons p .nil =>
          rw [show v' = _ from p]
          rfl
    · cases hkk
  have hbx0 := hr.boxes kk bx hbx
  have hbxo : BoxOk w col (fun _ => blk kk) w0.heap.size kk ⟨bx.t, bx.x, own⟩ := by
    rw [← sameNats_eq hown]; exact hbx0
  have hvals := valsOf_ok (vs := vs.eraseIdx pos) has (All2.of_get (by rw [List.length_eraseIdx, List.length_eraseIdx, hlen]) fun i e v he hv => by
    rw [List.getElem?_eraseIdx] at he hv
    by_cases hi : i < pos
    · rw [if_pos hi] at he hv; exact hes.get2 i e v he hv
    · rw [if_neg hi] at he hv; exact hes.get2 (i + 1) e v he hv)
  have hm := decA_mrep hbxo hx hvals
  have hpl : pos ≤ (vs.eraseIdx pos).length := by rw [List.length_eraseIdx, if_pos (by omega)]; omega
  have hsound := hΓ c hc
  have hcalls := hsound.mcalls pos cl own hmu w0 w col _ x y kk (blk kk) (Below.refl _ _) hr.below (fun b o' hb => by rw [hr.old b o' hb]; exact oldCol_two _ _ _) hfn hm hpl
  have hvs : (vs.eraseIdx pos).take pos ++ muV cl (blk kk) :: (vs.eraseIdx pos).drop pos = vs := by
    rw [← hptr']
    rw [List.eraseIdx_eq_take_drop_succ]
    have h1 : (vs.take pos).length = pos := by rw [List.length_take]; omega
    rw [List.take_append_of_le_length (by omega), List.take_of_length_le (by omega), List.drop_append_of_le_length (by omega), List.drop_of_length_le (by omega), List.nil_append]
    have h2 : pos < vs.length := by omega
    have h3 : pv = vs[pos] := by
      rw [List.getElem?_eq_getElem h2] at hpv
      exact (Option.some.inj hpv).symm
    rw [h3, ← List.drop_eq_getElem_cons h2, List.take_append_drop]
  rw [hvs] at hcalls
  unfold Oper.wp
  rw [hrun]
  show Calls P c.f _ w _
  refine hcalls.mono fun e w' hpost => ?_
  obtain ⟨v, col', ds', z', rfl, hsp', hbel, hold, hS, hbx', hres⟩ := hpost
  rw [hsp] at hsp'
  simp only [Option.some.injEq, Prod.mk.injEq] at hsp'
  obtain ⟨rfl, rfl⟩ := hsp'
  show K (a.put o.dst v) w'
  rw [hdst]
  have hcalm : Calm (MT kk) := ⟨fun h => (show Tag.imm = .box kk ∨ ∃ off, Tag.imm = .spb kk off from h).elim (fun h => by cases h) (fun ⟨_, h⟩ => by cases h), fun h => (show Tag.old = .box kk ∨ ∃ off, Tag.old = .spb kk off from h).elim (fun h => by cases h) (fun ⟨_, h⟩ => by cases h)⟩
  refine hK _ _ w' col' blk ⟨hbel, fun b o' hb => (hold b o' hb).trans (hr.old b o' hb), hr.fix.go hS hcalm, hr.pin, fun s => ?_, fun k' bx' hk' => ?_, hr.defers, ?_⟩ h
  · show EntOk _ _ _ _ _ (getE (setE F.v d _) s) ((a.tmps.setIfInBounds d v).getD s undef)
    rw [getE_setE, getD_set _ _ _ _ (by rw [hr.size]; exact hd d hdst)]
    split
    · unfold resOf at hres ⊢
      split at hres
      · exact ⟨hres.1, fun h => by simp at h⟩
      · exact hres
    · refine hS.ent hcalm (fun _ _ h => ?_) (fun _ _ => rfl) (hr.ents s)
      rcases h with h | ⟨_, h⟩ <;> cases h
  · have hk2 : (if k' = kk then some (⟨z.t, z.x, own⟩ : Box) else getB F.b k') = some bx' := by rw [← getB_setB]; exact hk'
    split at hk2
    · rename_i e
      subst e
      simp only [Option.some.injEq] at hk2
      subst hk2
      exact hbx'
    · rename_i hne
      refine hS.box hcalm (fun h => ?_) (fun off ho h => ?_) rfl (hr.boxes k' bx' hk2)
      · rcases h with h | ⟨_, h⟩
        · exact hne (Tag.box.inj h)
        · cases h
      · rcases h with h | ⟨_, h⟩
        · cases h
        · exact hne (Tag.spb.inj h).1
  · show (a.tmps.setIfInBounds d v).size = n
    rw [Array.size_setIfInBounds]; exact hr.size

theorem capEnt_ok {w : World} {col : Col} {blk : Nat → Nat} {B : Nat} {c : Cap} {v : Value} (h : CapOk w col blk c v) : EntOk w col blk B 0 (capEnt c) v := by
  cases c with
  | val d => exact ⟨h, fun h => by simp at h⟩
  | ref k o => exact h
  | peek d => exact h

theorem mCallK_ok {R : Type} (hT : TTok P tt) (hΓ : ∀ c ∈ Γ, SoundAt P w0 c) {ops : List Oper} {k : Fr → Option R} {r : R} (hr : Rel w0 c0 n F a w col blk) (hd : ∀ d, o.dst = some d → d < n)
    (h : mCallK Γ tt ops k o F = some r) {K : Act → World → Prop} {Q : Exit → Act → World → Prop} (hK : ∀ F' a' w' col' blk', Rel w0 c0 n F' a' w' col' blk' → k F' = some r → K a' w') : o.wp P a w K Q := by
  have plain : core Γ tt (takes tt ops o) (getE F.v) (getB F.b) o (fun δ => k (F.app δ)) = some r → o.wp P a w K Q := fun hh => by
    rw [core_bind] at hh
    cases hc : core Γ tt (takes tt ops o) (getE F.v) (getB F.b) o some with
    | none => rw [hc] at hh; cases hh
    | some δ =>
      rw [hc] at hh
      exact core_ok hT hΓ hr hd hc K Q fun a' w' col' blk' hr' => hK _ a' w' col' blk' hr' hh
  unfold mCallK at h
  simp only at h
  split at h
  case h_2 => exact plain h
  rename_i c hop
  split at h
  case h_2 => exact plain h
  rename_i f hcallee
  split at h
  case h_2 => exact plain h
  rename_i g caps hf
  split at h
  case h_2 => exact plain h
  rename_i con hcon
  obtain ⟨hmem, rfl⟩ := findM_some hcon
  obtain ⟨callee, args, argTypes⟩ := c
  simp only at hcallee h
  subst hcallee
  have hfe := opn (tt := tt) hr 0 f
  rw [hf] at hfe
  obtain ⟨vs, hfv, hcap⟩ := hfe
  obtain ⟨fn, hfun, hbody, hname⟩ := (hΓ con hmem).fn
  have hmap : (zipTys args.toList argTypes.toList).map (fun p => a.eval p.2) = args.toList.map a.eval := by
    conv => rhs; rw [← zipTys_map args.toList argTypes.toList]
    rw [List.map_map]; rfl
  have h1 : ∀ l : List (Nat × Operand), All2 (fun e v => ∃ s, EntOk w col blk w0.heap.size s e v) (l.map fun p => ent tt (getE F.v) p.1 p.2) (l.map fun p => a.eval p.2) := by
    intro l
    induction l with
    | nil => exact .nil
    | cons p r ih => exact .cons ⟨_, opn hr p.1 p.2⟩ ih
  have h2 : All2 (fun e v => ∃ s, EntOk w col blk w0.heap.size s e v) (caps.map capEnt) vs := by
    clear hfv hf h
    induction hcap with
    | nil => exact .nil
    | cons p _ ih => exact .cons ⟨0, capEnt_ok p⟩ ih
  have h3 := (h1 (zipTys args.toList argTypes.toList)).append h2
  rw [hmap] at h3
  have hrun : (execOp a.eval o).run P w = .ok (.enter con.f (args.toList.map a.eval ++ vs).toArray) w := by
    have hargs : args.map a.eval ++ vs.toArray = (args.toList.map a.eval ++ vs).toArray := by
      apply Array.ext'; simp
    unfold execOp
    rw [hop]
    have hb : ¬ fn.body = none := by intro hh; rw [hh] at hbody; cases hbody
    have hn' : ¬ fn.name = "runtime.NumGoroutine" := by simpa using hname
    simp [resolve, Deferred.ofValue, hfv, invoke, callFunc, hfun, hn', hb, ← hargs]
  exact mK_ok hmem hΓ hr hd h h3 hrun hK

/-! ## A region in the text's order -/
theorem steps_ok {R : Type} {arr : Array Oper} (hT : TTok P tt) (hΓ : ∀ c ∈ Γ, SoundAt P w0 c) {Q : Exit → Act → World → Prop} {k : Fr → Option R} {r : R} : ∀ (l : List Oper) (F : Fr) (a : Act) (w : World) (col : Col) (blk : Nat → Nat),
    (∀ o ∈ l, ∀ d, o.dst = some d → d < n) → steps Γ tt arr.toList l F k = some r → Rel w0 c0 n F a w col blk →
    (∀ F' a' w' col' blk', Rel w0 c0 n F' a' w' col' blk' → k F' = some r → Q .normal a' w') → wpList P arr Q l a w
  | [], F, a, w, col, blk, _, h, hr, hk => hk F a w col blk hr h
  | o :: l, F, a, w, col, blk, hd, h, hr, hk => by
    simp only [steps] at h
    cases hnil : nilOp o with
    | some p =>
      obtain ⟨t, x, pol⟩ := p
      unfold step at h
      rw [hnil] at h
      simp only at h
      have rest : ∀ F' a' w' col' blk', Rel w0 c0 n F' a' w' col' blk' → steps Γ tt arr.toList l F' k = some r → wpList P arr Q l a' w' := fun F' a' w' col' blk' hr' hk' =>
        steps_ok hT hΓ l F' a' w' col' blk' (fun o ho => hd o (by simp [ho])) hk' hr' hk
      unfold wpList
      rcases stepG_some h with ⟨hw, G, hG, hg⟩ | ⟨hw, G, hG, hg⟩
      · rw [if_pos (wantE_ok hr hw)]
        exact .inl (nilK_ok hT hnil (hr.congr hG.symm) (hd o (by simp)) hg rest)
      · rw [if_neg (by rw [wantE_ok hr hw]; simp)]
        cases hdst : o.dst with
        | none => rw [hdst] at hG; exact rest G a w col blk (hr.congr hG.symm) hg
        | some d =>
          rw [hdst] at hG
          have hp : Rel w0 c0 n ⟨setE F.v d (.tup []), F.b⟩ (a.put (some d) undef) w col blk := hr.put0 (hd o (by simp) d hdst) ⟨[], rfl, .nil⟩
          exact rest G _ w col blk (hp.congr hG.symm) hg
    | none =>
    cases hmo : mOp Γ o with
    | true =>
      unfold step at h
      rw [hnil, hmo] at h
      simp only at h
      have rest : ∀ F' a' w' col' blk', Rel w0 c0 n F' a' w' col' blk' → steps Γ tt arr.toList l F' k = some r → wpList P arr Q l a' w' := fun F' a' w' col' blk' hr' hk' =>
        steps_ok hT hΓ l F' a' w' col' blk' (fun o ho => hd o (by simp [ho])) hk' hr' hk
      unfold wpList
      rcases stepG_some h with ⟨hw, G, hG, hg⟩ | ⟨hw, G, hG, hg⟩
      · rw [if_pos (wantE_ok hr hw)]
        exact .inl (mCallK_ok hT hΓ (hr.congr hG.symm) (hd o (by simp)) hg rest)
      · rw [if_neg (by rw [wantE_ok hr hw]; simp)]
        cases hdst : o.dst with
        | none => rw [hdst] at hG; exact rest G a w col blk (hr.congr hG.symm) hg
        | some d =>
          rw [hdst] at hG
          have hp : Rel w0 c0 n ⟨setE F.v d (.tup []), F.b⟩ (a.put (some d) undef) w col blk := hr.put0 (hd o (by simp) d hdst) ⟨[], rfl, .nil⟩
          exact rest G _ w col blk (hp.congr hG.symm) hg
    | false =>
    obtain ⟨δ, F', h1, h2, h3⟩ := step_some hnil hmo h
    have := eff_ok (K := wpList P arr Q l) (Q := Q) hT hΓ hr (hd o (by simp)) h1 fun a' w' col' blk' hr' =>
      steps_ok hT hΓ l F' a' w' col' blk' (fun o ho => hd o (by simp [ho])) h3 (hr'.congr h2.symm) hk
    unfold wpList
    split
    · rename_i hw; rw [if_pos hw] at this; exact .inl this
    · rename_i hw; rw [if_neg hw] at this; exact this

/-! ## A region in any order -/
def runE (Γ : List Con) (tt : TT) (ops : List Oper) : List Nat → Fr → Option Fr
  | [], F => some F
  | i :: r, F => match ops[i]? with
    | some o => (match eff Γ tt ops o F with
      | some δ => runE Γ tt ops r (F.app δ)
      | none => none)
    | none => none

theorem mem_zero_ops {ops : List Oper} {o : Oper} (h : mem tt ops o = 0) : (∀ t x, o.op ≠ .load t x) ∧ (∀ t x y, o.op ≠ .store t x y) ∧ (∀ c, o.op = .call c → ∀ f, c.callee ≠ .value f) := by
  refine ⟨fun t x e => ?_, fun t x y e => ?_, fun c e f e2 => ?_⟩
  · simp only [mem, e] at h; cases hh : takes tt ops o <;> simp [hh] at h
  · simp [mem, e] at h
  · simp [mem, e, e2] at h

theorem eff_congr {ops : List Oper} (h : ∀ s ∈ foot ops o, getE F.v s = getE G.v s) (hb : getB F.b = getB G.b ∨ mem tt ops o = 0) : eff Γ tt ops o F = eff Γ tt ops o G := by
  have hn : ∀ s ∈ namesOf o, getE F.v s = getE G.v s := fun s hs => h s (by
    unfold foot
    exact List.mem_append_left _ (List.mem_append_right _ hs))
  have hc : core Γ tt (takes tt ops o) (getE F.v) (getB F.b) o some = core Γ tt (takes tt ops o) (getE G.v) (getB G.b) o some :=
    core_congr hn (hb.imp id mem_zero_ops)
  unfold eff
  cases hg : o.guard with
  | none => exact hc
  | some p =>
    obtain ⟨j, want⟩ := p
    simp only
    cases hj : (ops[j]?).bind (·.dst) with
    | none => rfl
    | some g =>
      simp only
      rw [h g (by unfold foot; refine List.mem_append_right _ ?_; simp [hg, hj]), hc]

/-! ### references -/
def NoRef (F : Fr) (d : Nat) : Prop := ∀ s, ¬ (getE F.v s).refs d
def Fresh (o : Oper) (F : Fr) : Prop := makes o = true → ∀ d, o.dst = some d → NoRef F d

theorem mentions_refs {e : Ent} {d : Nat} (h : e.mentions d = false) : ¬ e.refs d := by
  cases e with
  | ref k o => intro hr; simp only [Ent.refs] at hr; subst hr; simp [Ent.mentions] at h
  | clo f cs =>
    rintro ⟨off, hm⟩
    simp only [Ent.mentions, List.any_eq_false] at h
    exact h _ hm (by simp [Cap.mentions])
  | _ => exact fun h => h

theorem purge_self {e : Ent} {d : Nat} (h : ¬ e.refs d) : e.purge d = e := by
  cases e with
  | ref k o =>
    have : Nat.beq k d = false := by
      cases hb : Nat.beq k d with
      | false => rfl
      | true => exact absurd (Nat.eq_of_beq_eq_true hb) h
    simp only [Ent.purge, this, cond_false]
  | clo f cs =>
    have : cs.any (Cap.mentions d) = false := by
      rw [List.any_eq_false]
      intro c hc hm
      cases c with
      | ref k o =>
        have := Nat.eq_of_beq_eq_true hm
        subst this
        exact h ⟨o, hc⟩
      | _ => simp [Cap.mentions] at hm
    simp only [Ent.purge, this, cond_false]
  | _ => rfl

theorem fresh_of {ops : List Oper} {F : Fr} (h : freshB ops F = true) : ∀ o ∈ ops, Fresh o F := fun o ho hm d hd s hr => by
  unfold freshB at h
  rw [List.all_eq_true] at h
  have h1 := h o ho
  rw [hm, hd] at h1
  simp only [cond_true, List.all_eq_true, Bool.not_eq_true'] at h1
  have : ∀ (v : List (Nat × Ent)), (∀ p ∈ v, p.2.mentions d = false) → ¬ (getE v s).refs d := fun v => by
    induction v with
    | nil => exact fun _ h => h
    | cons p r ih =>
      obtain ⟨k, e⟩ := p
      intro hv
      simp only [getE]
      cases Nat.beq k s with
      | true => exact mentions_refs (hv (k, e) (by simp))
      | false => exact ih fun p hp => hv p (by simp [hp])
  exact this F.v h1 hr

theorem Fresh.congr {F G : Fr} (h : Eqv F G) (hf : Fresh o F) : Fresh o G := fun hm d hd s => by rw [← h.1]; exact hf hm d hd s

theorem Fr.app_v' (F : Fr) (δ : Delta) (h : ∀ d, δ.purge = some d → NoRef F d) (s : Nat) : getE (F.app δ).v s = (lastE δ.us s).getD (getE F.v s) := by
  cases hp : δ.purge with
  | none => exact F.app_v δ hp s
  | some d =>
    simp only [Fr.app, hp]
    rw [getE_setEs, getE_purgeE, purge_self (h d hp s)]

theorem lastE_mem {us : List (Nat × Ent)} {s : Nat} {e : Ent} (h : lastE us s = some e) : (s, e) ∈ us := by
  induction us with
  | nil => cases h
  | cons p r ih =>
    obtain ⟨k, x⟩ := p
    simp only [lastE] at h
    cases hl : lastE r s with
    | some y => rw [hl] at h; simp only [Option.some.injEq] at h; subst h; exact List.mem_cons_of_mem _ (ih hl)
    | none =>
      rw [hl] at h
      simp only at h
      split at h
      · rename_i hk; subst hk; simp only [Option.some.injEq] at h; subst h; simp
      · cases h

theorem lastB_mem {us : List (Nat × Box)} {s : Nat} {e : Box} (h : lastB us s = some e) : (s, e) ∈ us := by
  induction us with
  | nil => cases h
  | cons p r ih =>
    obtain ⟨k, x⟩ := p
    simp only [lastB] at h
    cases hl : lastB r s with
    | some y => rw [hl] at h; simp only [Option.some.injEq] at h; subst h; exact List.mem_cons_of_mem _ (ih hl)
    | none =>
      rw [hl] at h
      simp only at h
      split at h
      · rename_i hk; subst hk; simp only [Option.some.injEq] at h; subst h; simp
      · cases h

/-- What an operation may touch in memory. -/
theorem core_shape {ops : List Oper} {gv : Nat → Ent} {gb : Nat → Option Box} (h : core Γ tt (takes tt ops o) gv gb o some = some δ) :
    (∀ d, δ.purge = some d → makes o = true ∧ o.dst = some d) ∧ Writes δ.us (writes tt ops o) ∧ ∀ p ∈ δ.bs, (makes o = true ∧ o.dst = some p.1) ∨ (makes o = false ∧ mem tt ops o = 2 ∧ ∃ s ∈ namesOf o, (gv s).refs p.1) := by
  cases hm : makes o with
  | true =>
    cases hop : o.op with
    | alloc t =>
      unfold core at h; simp only [hop] at h
      split at h
      · rename_i ti d _ hd
        simp only [Option.some.injEq] at h
        subst h
        refine ⟨fun d' hd' => ?_, fun p hp => ?_, fun p hp => ?_⟩
        · simp only [Option.some.injEq] at hd'; subst hd'; exact ⟨rfl, hd⟩
        · simp only [List.mem_singleton] at hp; subst hp; simp [writes, hd]
        · simp only [List.mem_singleton] at hp; subst hp; exact .inl ⟨rfl, hd⟩
      · cases h
    | box t x =>
      unfold core at h; simp only [hop] at h
      split at h
      · rename_i ti d q own _ hd _
        cases hq : decide (q.t = ti.ty) <;> rw [hq] at h
        · cases h
        · simp only [cond_true, Option.some.injEq] at h
          subst h
          refine ⟨fun d' hd' => ?_, fun p hp => ?_, fun p hp => ?_⟩
          · simp only [Option.some.injEq] at hd'; subst hd'; exact ⟨rfl, hd⟩
          · simp only [List.mem_singleton] at hp; subst hp; simp [writes, hd]
          · simp only [List.mem_singleton] at hp; subst hp; exact .inl ⟨rfl, hd⟩
      · cases h
    | _ => simp [makes, hop] at hm
  | false =>
    obtain ⟨h1, h2, h3⟩ := core_writes hm h
    refine ⟨fun d hd => (by rw [h1] at hd; cases hd), h2, fun p hp => .inr ⟨rfl, ?_⟩⟩
    have hmem : mem tt ops o = 2 := Classical.byContradiction fun hne => by rw [h3 hne] at hp; simp at hp
    refine ⟨hmem, ?_⟩
    have named : ∀ {x : Operand} {ty kk off}, x ∈ o.op.operands.toList → ent tt gv ty x = .ref kk off → ∃ s ∈ namesOf o, (gv s).refs kk := fun {x ty kk off} hx he => by
      cases x with
      | tmp t => exact ⟨t, List.mem_filterMap.2 ⟨.tmp t, hx, rfl⟩, by rw [show gv t = .ref kk off from he]; rfl⟩
      | const c =>
        exfalso
        revert he
        show constE tt ty c = .ref kk off → False
        unfold constE
        split
        · exact fun h => by cases h
        · exact fun h => by cases h
        · exact fun h => by cases h
        · split
          · split <;> exact fun h => by cases h
          · exact fun h => by cases h
        · exact fun h => by cases h
      | func f => cases he
      | global g => cases he
    cases hop : o.op with
    | load t x =>
      unfold core at h; simp only [hop] at h
      unfold loadK at h
      split at h
      · rename_i ti kk off _ he
        split at h
        · rename_i bx _
          split at h
          · rename_i y _
            cases hb : takes tt ops o && ti.ty.isSl && bx.own.contains off <;> rw [hb] at h
            · obtain ⟨d, _, rfl⟩ := put_some h
              simp at hp
            · simp only [cond_true] at h
              split at h
              · simp only [Option.some.injEq] at h
                subst h
                simp only [List.mem_singleton] at hp
                subst hp
                exact named (by simp [hop, Op.operands]) he
              · cases h
          · cases h
        · cases h
      · split at h
        · obtain ⟨d, _, rfl⟩ := put_some h
          simp at hp
        · cases h
      · cases h
    | store t x y =>
      unfold core at h; simp only [hop] at h
      unfold storeK at h
      split at h
      · rename_i ti kk off d own _ he _ _
        split at h
        · rename_i bx _
          cases hb : decide (d.t = ti.ty) <;> rw [hb] at h
          · cases h
          · simp only [cond_true] at h
            split at h
            · simp only [Option.some.injEq] at h
              subst h
              simp only [List.mem_singleton] at hp
              subst hp
              exact named (by simp [hop, Op.operands]) he
            · cases h
        · cases h
      · cases h
    | call c =>
      exfalso
      simp only [mem, hop] at hmem
      split at hmem <;> simp at hmem
    | _ => simp [mem, hop] at hmem

theorem eff_shape {ops : List Oper} (h : eff Γ tt ops o F = some δ) :
    (∀ d, δ.purge = some d → makes o = true ∧ o.dst = some d) ∧ Writes δ.us (writes tt ops o) ∧ ∀ p ∈ δ.bs, (makes o = true ∧ o.dst = some p.1) ∨ (makes o = false ∧ mem tt ops o = 2 ∧ ∃ s ∈ namesOf o, (getE F.v s).refs p.1) := by
  have skip : ∀ {δ : Delta}, (some { us := o.dst.toList.map fun d => (d, .tup []) } : Option Delta) = some δ →
      (∀ d, δ.purge = some d → makes o = true ∧ o.dst = some d) ∧ Writes δ.us (writes tt ops o) ∧ ∀ p ∈ δ.bs, (makes o = true ∧ o.dst = some p.1) ∨ (makes o = false ∧ mem tt ops o = 2 ∧ ∃ s ∈ namesOf o, (getE F.v s).refs p.1) := fun {δ} hh => by
    simp only [Option.some.injEq] at hh
    subst hh
    refine ⟨fun d hd => (by cases hd), fun p hp => ?_, fun p hp => (by simp at hp)⟩
    simp only [List.mem_map, Option.mem_toList] at hp
    obtain ⟨d, hd, rfl⟩ := hp
    simp [writes, hd]
  unfold eff at h
  cases hg : o.guard with
  | none => rw [hg] at h; exact core_shape h
  | some p =>
    obtain ⟨j, want⟩ := p
    rw [hg] at h
    simp only at h
    split at h
    · split at h
      · split at h
        · exact core_shape h
        · exact skip h
      · exact skip h
      · cases h
    · cases h

theorem eff_refs {ops : List Oper} {k : Nat} (hF : NoRef F k) (hm : makes o = true → o.dst ≠ some k) (h : eff Γ tt ops o F = some δ) : NoRef (F.app δ) k := fun s => by
  have hus : ∀ p ∈ δ.us, ¬ p.2.refs k := by
    have skip : ∀ {δ : Delta}, (some { us := o.dst.toList.map fun d => (d, .tup []) } : Option Delta) = some δ → ∀ p ∈ δ.us, ¬ p.2.refs k := fun {δ} hh p hp => by
      simp only [Option.some.injEq] at hh
      subst hh
      simp only [List.mem_map, Option.mem_toList] at hp
      obtain ⟨d, hd, rfl⟩ := hp
      exact fun h => h
    unfold eff at h
    cases hg : o.guard with
    | none => rw [hg] at h; exact core_refs hF hm h
    | some p =>
      obtain ⟨j, want⟩ := p
      rw [hg] at h
      simp only at h
      split at h
      · split at h
        · split at h
          · exact core_refs hF hm h
          · exact skip h
        · exact skip h
        · cases h
      · cases h
  have hbase : ∀ v : List (Nat × Ent), ¬ (getE v s).refs k → ¬ (getE (setEs v δ.us) s).refs k := fun v hv => by
    rw [getE_setEs]
    cases hl : lastE δ.us s with
    | none => exact hv
    | some e => exact hus _ (lastE_mem hl)
  simp only [Fr.app]
  cases hp : δ.purge with
  | none => exact hbase _ (hF s)
  | some d =>
    refine hbase _ ?_
    rw [getE_purgeE]
    intro hr
    have := hF s
    cases he : getE F.v s with
    | ref q off =>
      rw [he] at hr this
      simp only [Ent.purge] at hr
      cases hb : Nat.beq q d <;> rw [hb] at hr
      · exact this hr
      · exact hr
    | clo f cs =>
      rw [he] at hr this
      simp only [Ent.purge] at hr
      cases hb : cs.any (Cap.mentions d) <;> rw [hb] at hr
      · exact this hr
      · exact hr
    | _ => rw [he] at hr this; exact this hr

theorem eff_congr2 {ops : List Oper} (h : ∀ s ∈ foot ops o, getE F.v s = getE G.v s) (hb : (∀ s ∈ namesOf o, ∀ k, (getE F.v s).refs k → getB F.b k = getB G.b k) ∨ mem tt ops o = 0) : eff Γ tt ops o F = eff Γ tt ops o G := by
  rcases hb with hb | hb
  · have hc : core Γ tt (takes tt ops o) (getE F.v) (getB F.b) o some = core Γ tt (takes tt ops o) (getE F.v) (getB G.b) o some := core_congr2 hb
    have e1 : eff Γ tt ops o F = eff Γ tt ops o ⟨F.v, G.b⟩ := by
      unfold eff
      simp only
      rw [hc]
    rw [e1]
    exact eff_congr h (.inl rfl)
  · exact eff_congr h (.inr hb)

theorem runE_congr {ops : List Oper} : ∀ {l : List Nat} {F G H : Fr}, Eqv F G → runE Γ tt ops l F = some H → ∃ H', runE Γ tt ops l G = some H' ∧ Eqv H' H
  | [], F, G, H, h, hh => by simp only [runE, Option.some.injEq] at hh ⊢; subst hh; exact ⟨G, rfl, h.symm⟩
  | i :: r, F, G, H, h, hh => by
    simp only [runE] at hh ⊢
    split at hh
    · rename_i o ho
      rw [← eff_congr (F := F) (G := G) (fun s _ => by rw [h.1]) (.inl h.2)]
      split at hh
      · rename_i δ hδ
        try rw [hδ]
        exact runE_congr (app_congr h δ) hh
      · cases hh
    · cases hh

theorem eff_writes {ops : List Oper} (hm : makes o = false) (h : eff Γ tt ops o F = some δ) : δ.purge = none ∧ Writes δ.us (writes tt ops o) ∧ (mem tt ops o ≠ 2 → δ.bs = []) := by
  unfold eff at h
  cases hg : o.guard with
  | none => rw [hg] at h; exact core_writes hm h
  | some p =>
    obtain ⟨j, want⟩ := p
    rw [hg] at h
    simp only at h
    split at h
    · split at h
      · split at h
        · exact core_writes hm h
        · simp only [Option.some.injEq] at h
          subst h
          refine ⟨rfl, fun p hp => ?_, fun _ => rfl⟩
          simp only [List.mem_map, Option.mem_toList] at hp
          obtain ⟨d, hd, rfl⟩ := hp
          simp [writes, hd]
      · simp only [Option.some.injEq] at h
        subst h
        refine ⟨rfl, fun p hp => ?_, fun _ => rfl⟩
        simp only [List.mem_map, Option.mem_toList] at hp
        obtain ⟨d, hd, rfl⟩ := hp
        simp [writes, hd]
      · cases h
    · cases h

theorem apart1_spec {xs ys : List Nat} (h : apart1 xs ys = true) : ∀ x ∈ xs, x ∉ ys := fun x hx hy => by
  unfold apart1 at h
  rw [List.all_eq_true] at h
  have := h x hx
  simp only [Bool.not_eq_true', List.any_eq_false] at this
  exact this x hy (by simp)

theorem writes_foot {ops : List Oper} {o : Oper} {s : Nat} (h : s ∈ writes tt ops o) : s ∈ foot ops o := by
  unfold writes at h
  unfold foot
  rcases List.mem_append.1 h with h | h
  · exact List.mem_append_left _ (List.mem_append_left _ h)
  · refine List.mem_append_left _ (List.mem_append_right _ ?_)
    unfold taken at h
    split at h
    · rename_i s' hop
      cases ht : takes tt ops o <;> rw [ht] at h <;> simp at h
      subst h; simp [hop, Op.operands]
    · rename_i s' hop
      cases ht : takes tt ops o <;> rw [ht] at h <;> simp at h
      subst h; simp [hop, Op.operands]
    · rename_i t s' hop
      cases ht : takes tt ops o <;> rw [ht] at h <;> simp at h
      subst h; simp [hop, Op.operands]
    · rename_i t p s' hop
      simp at h
      subst h; simp [hop, Op.operands]
    · rename_i c hop
      split at h
      · rename_i hcal
        split at h
        · rename_i s' r hargs
          simp only [List.mem_singleton] at h
          subst h
          rw [hop]
          simp only [Op.operands, Call.operands, Array.toList_append, hargs]
          simp
        · simp at h
      · simp at h
    · simp at h

/-- Two operations that stand apart change places. -/
theorem swap {ops : List Oper} {p q : Oper} (hap : apart tt ops p q = true) (fp : Fresh p F) (fq : Fresh q F) {δp δq : Delta} (h1 : eff Γ tt ops q F = some δq) (h2 : eff Γ tt ops p (F.app δq) = some δp) :
    eff Γ tt ops p F = some δp ∧ eff Γ tt ops q (F.app δp) = some δq ∧ Eqv ((F.app δp).app δq) ((F.app δq).app δp) := by
  unfold apart at hap
  simp only [Bool.and_eq_true, Bool.not_eq_true', Bool.and_eq_false_iff, Bool.not_eq_false'] at hap
  obtain ⟨⟨⟨a1, a2⟩, a5⟩, a6⟩ := hap
  have w1 := apart1_spec a1
  have w2 := apart1_spec a2
  obtain ⟨q1, q2, q3⟩ := eff_shape h1
  obtain ⟨p1, p2, p3⟩ := eff_shape h2
  have m5 : mem tt ops p ≠ 2 ∨ mem tt ops q = 0 := by
    rcases a5 with h | h
    · exact .inl fun e => by rw [e] at h; simp at h
    · exact .inr (Nat.eq_of_beq_eq_true h)
  have m6 : mem tt ops q ≠ 2 ∨ mem tt ops p = 0 := by
    rcases a6 with h | h
    · exact .inl fun e => by rw [e] at h; simp at h
    · exact .inr (Nat.eq_of_beq_eq_true h)
  have dne : ∀ d, p.dst = some d → q.dst ≠ some d := fun d hp hq => w1 d (by simp [writes, hp]) (by simp [foot, hq])
  have nq : ∀ d, δq.purge = some d → NoRef F d := fun d hd => fq (q1 d hd).1 d (q1 d hd).2
  have np : ∀ d, δp.purge = some d → NoRef F d := fun d hd => fp (p1 d hd).1 d (p1 d hd).2
  have vq := F.app_v' δq nq
  have foot_p : ∀ s ∈ foot ops p, getE (F.app δq).v s = getE F.v s := fun s hs => by rw [vq, lastE_keys q2 (fun hw => w2 s hw hs)]; rfl
  have names_foot : ∀ {o : Oper} {s}, s ∈ namesOf o → s ∈ foot ops o := fun hs => List.mem_append_left _ (List.mem_append_right _ hs)
  have e1 : eff Γ tt ops p F = some δp := by
    rw [← h2]
    refine eff_congr2 (fun s hs => (foot_p s hs).symm) ?_
    by_cases hm0 : mem tt ops p = 0
    · exact .inr hm0
    · refine .inl fun s hs k hk => ?_
      rw [F.app_b]
      cases hl : lastB δq.bs k with
      | none => rfl
      | some b =>
        exfalso
        rcases q3 _ (lastB_mem hl) with ⟨hmk, hd⟩ | ⟨_, hm2, _⟩
        · exact fq hmk k hd s hk
        · rcases m6 with h | h
          · exact h hm2
          · exact hm0 h
  obtain ⟨p1', p2', p3'⟩ := eff_shape e1
  have vp := F.app_v' δp np
  have e2 : eff Γ tt ops q (F.app δp) = some δq := by
    rw [← h1]
    have hft : ∀ s ∈ foot ops q, getE (F.app δp).v s = getE F.v s := fun s hs => by rw [vp, lastE_keys p2 (fun hw => w1 s hw hs)]; rfl
    refine (eff_congr2 (fun s hs => (hft s hs).symm) ?_).symm
    by_cases hm0 : mem tt ops q = 0
    · exact .inr hm0
    · refine .inl fun s hs k hk => ?_
      rw [F.app_b]
      cases hl : lastB δp.bs k with
      | none => rfl
      | some b =>
        exfalso
        rcases p3' _ (lastB_mem hl) with ⟨hmk, hd⟩ | ⟨_, hm2, _⟩
        · exact fp hmk k hd s hk
        · rcases m5 with h | h
          · exact h hm2
          · exact hm0 h
  have np' : ∀ d, δp.purge = some d → NoRef (F.app δq) d := fun d hd => eff_refs (np d hd) (fun _ => dne d (p1 d hd).2) h1
  have nq' : ∀ d, δq.purge = some d → NoRef (F.app δp) d := fun d hd => eff_refs (nq d hd) (fun _ h => dne d h (q1 d hd).2) e1
  refine ⟨e1, e2, ?_, ?_⟩
  · funext s
    rw [Fr.app_v' _ _ nq', Fr.app_v' _ _ np', vp, vq]
    by_cases hs : s ∈ writes tt ops p
    · rw [lastE_keys q2 (fun hq => w2 s hq (writes_foot hs))]; rfl
    · rw [lastE_keys p2 hs]; rfl
  · funext k
    rw [Fr.app_b, Fr.app_b, Fr.app_b, Fr.app_b]
    cases hlp : lastB δp.bs k with
    | none => rfl
    | some b =>
      cases hlq : lastB δq.bs k with
      | none => rfl
      | some b' =>
        exfalso
        rcases p3' _ (lastB_mem hlp) with ⟨hmp, hdp⟩ | ⟨_, hm2p, s, hs, hr⟩ <;> rcases q3 _ (lastB_mem hlq) with ⟨hmq, hdq⟩ | ⟨_, hm2q, s', hs', hr'⟩
        · exact dne k hdp hdq
        · exact fp hmp k hdp s' hr'
        · exact fq hmq k hdq s hr
        · rcases m5 with h | h
          · exact h hm2p
          · rw [h] at hm2q; cases hm2q

/-- What is yet to be made, and is made once. -/
def Apart1 (ops : List Oper) : Prop := ∀ (i j : Nat) (p q : Oper), ops[i]? = some p → ops[j]? = some q → i ≠ j → makes p = true → makes q = true → ∀ d, p.dst = some d → q.dst ≠ some d

theorem Fresh.step {ops : List Oper} {i j : Nat} {p q : Oper} (h1 : Apart1 ops) (hp : ops[i]? = some p) (hq : ops[j]? = some q) (hij : i ≠ j) (hf : Fresh p F) (h : eff Γ tt ops q F = some δ) : Fresh p (F.app δ) := fun hm d hd =>
  eff_refs (hf hm d hd) (fun hmq => h1 i j p q hp hq hij hm hmq d hd) h

theorem front {ops : List Oper} (hdis : Apart1 ops) {i : Nat} {p : Oper} (hp : ops[i]? = some p) {post : List Nat} : ∀ {pre : List Nat} {F G : Fr}, (∀ j ∈ pre, ∃ q, ops[j]? = some q ∧ apart tt ops p q = true) → (pre ++ [i]).Nodup →
    (∀ j ∈ pre ++ [i], ∀ q, ops[j]? = some q → Fresh q F) → runE Γ tt ops (pre ++ i :: post) F = some G →
    ∃ δ G', eff Γ tt ops p F = some δ ∧ runE Γ tt ops (pre ++ post) (F.app δ) = some G' ∧ Eqv G' G
  | [], F, G, _, _, _, h => by
    simp only [List.nil_append, runE, hp] at h
    split at h
    · rename_i δ hδ; exact ⟨δ, G, hδ, h, Eqv.refl G⟩
    · cases h
  | j :: pre, F, G, ha, hnd, hfr, h => by
    obtain ⟨q, hq, hap⟩ := ha j (by simp)
    simp only [List.cons_append, runE, hq] at h
    split at h
    · rename_i δq hδq
      rw [List.cons_append, List.nodup_cons] at hnd
      obtain ⟨δp, G', h1, h2, h3⟩ := front hdis hp (fun k hk => ha k (by simp [hk])) hnd.2 (fun k hk o ho => (hfr k (by simp only [List.cons_append, List.mem_cons]; exact .inr hk) o ho).step hdis ho hq (fun e => hnd.1 (e ▸ hk)) hδq) h
      obtain ⟨e1, e2, e3⟩ := swap hap (hfr i (by simp) p hp) (hfr j (by simp) q hq) hδq h1
      obtain ⟨G'', h4, h5⟩ := runE_congr e3.symm h2
      refine ⟨δp, G'', e1, ?_, h5.trans h3⟩
      simp only [List.cons_append, runE, hq, e2]
      exact h4
    · cases h

/-! ### What stands before -/
def row (acc : List Nat) (o : Oper) : Nat := o.after.toList.foldl (fun s e => bif Region.binds .any e && Nat.blt e.on acc.length then s ||| 2 ^ e.on ||| acc.getD e.on 0 else s) 0

theorem befores_length : ∀ (l : List Oper) (acc : List Nat), (befores l acc).length = acc.length + l.length
  | [], acc => by simp [befores]
  | o :: r, acc => by rw [befores, befores_length r]; simp; omega

theorem befores_old : ∀ (l : List Oper) (acc : List Nat) (i : Nat), i < acc.length → (befores l acc)[i]? = acc[i]?
  | [], acc, i, _ => rfl
  | o :: r, acc, i, h => by rw [befores, befores_old r _ i (by simp; omega), List.getElem?_append_left h]

theorem befores_at : ∀ (l : List Oper) (acc : List Nat) (i : Nat) (o : Oper), l[i]? = some o → ∃ acc' : List Nat, acc'.length = acc.length + i ∧ (befores l acc)[acc.length + i]? = some (row acc' o) ∧ ∀ j, j < acc'.length → (befores l acc)[j]? = acc'[j]?
  | [], acc, i, o, h => by simp at h
  | x :: r, acc, 0, o, h => by
    simp only [List.getElem?_cons_zero, Option.some.injEq] at h
    subst h
    refine ⟨acc, rfl, ?_, fun j hj => ?_⟩
    · rw [befores, befores_old r _ _ (by simp)]
      simp [row]
    · rw [befores, befores_old r _ _ (by simp; omega), List.getElem?_append_left hj]
  | x :: r, acc, i + 1, o, h => by
    simp only [List.getElem?_cons_succ] at h
    obtain ⟨acc', h1, h2, h3⟩ := befores_at r (acc ++ [row acc x]) i o h
    refine ⟨acc', by rw [h1]; simp; omega, ?_, h3⟩
    rw [befores]
    have : acc.length + (i + 1) = (acc ++ [row acc x]).length + i := by simp; omega
    rw [this]
    exact h2

theorem foldl_bit (acc : List Nat) (j : Nat) : ∀ (l : List Edge) (s0 : Nat), (l.foldl (fun s e => bif Region.binds .any e && Nat.blt e.on acc.length then s ||| 2 ^ e.on ||| acc.getD e.on 0 else s) s0).testBit j = true →
    s0.testBit j = true ∨ ∃ e ∈ l, Region.binds .any e = true ∧ e.on < acc.length ∧ (j = e.on ∨ (acc.getD e.on 0).testBit j = true)
  | [], s0, h => .inl h
  | e :: r, s0, h => by
    simp only [List.foldl_cons] at h
    rcases foldl_bit acc j r _ h with h1 | ⟨e', h1, h2⟩
    · cases hb : Region.binds .any e && Nat.blt e.on acc.length with
      | false => rw [hb] at h1; exact .inl h1
      | true =>
        rw [hb] at h1
        simp only [cond_true, Nat.testBit_or, Bool.or_eq_true, Nat.testBit_two_pow, decide_eq_true_eq] at h1
        simp only [Bool.and_eq_true, Nat.blt_eq] at hb
        rcases h1 with (h1 | h1) | h1
        · exact .inl h1
        · exact .inr ⟨e, by simp, hb.1, hb.2, .inl h1.symm⟩
        · exact .inr ⟨e, by simp, hb.1, hb.2, .inr h1⟩
    · exact .inr ⟨e', by simp [h1], h2⟩

/-- What has been done holds, with each operation, all that must stand before it. -/
def Closed (ops : List Oper) (listed : Array Bool) : Prop :=
  ∀ m, listed.getD m false = true → ∀ j, ((befores ops []).getD m 0).testBit j = true → listed.getD j false = true

theorem ready_before {arr : Array Oper} {listed : Array Bool} (hc : Closed arr.toList listed) {i : Nat} (hi : i ∈ Region.ready .any arr listed) : ∀ j, ((befores arr.toList []).getD i 0).testBit j = true → listed.getD j false = true := by
  intro j hj
  obtain ⟨_, o, ho, hall⟩ := mem_ready.1 hi
  have ho' : arr.toList[i]? = some o := by rw [Array.getElem?_toList]; exact ho
  obtain ⟨acc', h1, h2, h3⟩ := befores_at arr.toList [] i o ho'
  simp only [List.length_nil, Nat.zero_add] at h1 h2
  have hrow : (befores arr.toList []).getD i 0 = row acc' o := by rw [List.getD_eq_getElem?_getD, h2]; rfl
  rw [hrow] at hj
  rcases foldl_bit acc' j o.after.toList 0 hj with h | ⟨e, he, hb, hlt, h⟩
  · simp at h
  · have hon := hall e (by simpa using he) hb
    rcases h with h | h
    · subst h; exact hon
    · refine hc e.on hon j ?_
      rw [List.getD_eq_getElem?_getD, h3 e.on hlt, ← List.getD_eq_getElem?_getD]
      exact h

theorem drawOk_nil {ops : List Oper} (h : drawOk tt ops = true) : ∀ o ∈ ops, nilOp o = none := fun o ho => by
  obtain ⟨i, hi, rfl⟩ := List.getElem_of_mem ho
  unfold drawOk at h
  rw [List.all_eq_true] at h
  have h1 := h i (List.mem_range.2 hi)
  rw [Bool.and_eq_true, List.getElem?_eq_getElem hi] at h1
  simp only [Option.map_some, Option.getD_some, Bool.and_eq_true, Option.isNone_iff_eq_none] at h1
  exact h1.1.1

theorem drawOk_dis {ops : List Oper} (h : drawOk tt ops = true) : Apart1 ops := by
  have key : ∀ (i j : Nat) (p q : Oper), j < i → ops[i]? = some p → ops[j]? = some q → makes p = true → makes q = true → ∀ d, p.dst = some d → q.dst ≠ some d := fun i j p q hji hp hq hmp hmq d hd hd' => by
    unfold drawOk at h
    have hi : i < ops.length := (List.getElem?_eq_some_iff.1 hp).1
    rw [List.all_eq_true] at h
    have h1 := h i (List.mem_range.2 hi)
    rw [Bool.and_eq_true, List.all_eq_true] at h1
    have h2 := h1.2 j (List.mem_range.2 hji)
    rw [Bool.and_eq_true, hp, hq] at h2
    have h3 := h2.2
    simp [hmp, hmq, sameDst, hd, hd'] at h3
  intro i j p q hp hq hij hmp hmq d hd hd'
  rcases Nat.lt_or_gt_of_ne hij with hlt | hlt
  · exact key j i q p hlt hq hp hmq hmp d hd' hd
  · exact key i j p q hlt hp hq hmp hmq d hd hd'

theorem drawOk_spec {ops : List Oper} (h : drawOk tt ops = true) {i : Nat} {o : Oper} (ho : ops[i]? = some o) :
    (∀ e ∈ o.after, Region.binds .any e = true → e.on < i) ∧ ∀ j, j < i → ((befores ops []).getD i 0).testBit j = true ∨ ∃ q, ops[j]? = some q ∧ apart tt ops o q = true := by
  unfold drawOk at h
  have hi : i < ops.length := (List.getElem?_eq_some_iff.1 ho).1
  rw [List.all_eq_true] at h
  have h1 := h i (List.mem_range.2 hi)
  rw [Bool.and_eq_true] at h1
  obtain ⟨h2, h3⟩ := h1
  rw [ho] at h2
  simp only [Option.map_some, Option.getD_some, Bool.and_eq_true, List.all_eq_true, Bool.or_eq_true, Bool.not_eq_true', Nat.blt_eq] at h2
  replace h2 := h2.2
  rw [List.all_eq_true] at h3
  refine ⟨fun e he hb => ?_, fun j hj => ?_⟩
  · rcases h2 e (by simpa using he) with h | h
    · rw [h] at hb; cases hb
    · exact h
  · have h4 := h3 j (List.mem_range.2 hj)
    rw [Bool.and_eq_true, Bool.or_eq_true] at h4
    refine h4.1.imp id fun h5 => ?_
    rw [ho] at h5
    cases hq : ops[j]? with
    | none => rw [hq] at h5; cases h5
    | some q => rw [hq] at h5; exact ⟨q, rfl, h5⟩

theorem any_ok {arr : Array Oper} (hT : TTok P tt) (hΓ : ∀ c ∈ Γ, SoundAt P w0 c) (hd : ∀ o ∈ arr.toList, ∀ d, o.dst = some d → d < n) (hok : drawOk tt arr.toList = true) {Q : Exit → Act → World → Prop} {H : Fr}
    (hQ : ∀ F' a' w' col' blk', Rel w0 c0 n F' a' w' col' blk' → Eqv F' H → Q .normal a' w') :
    ∀ (fuel : Nat) (rem : List Nat) (listed : Array Bool) (F G : Fr) (a : Act) (w : World) (col : Col) (blk : Nat → Nat), runE Γ tt arr.toList rem F = some G → Eqv G H → Rel w0 c0 n F a w col blk →
      listed.size = arr.size → rem.Pairwise (· < ·) → (∀ j, j ∈ rem ↔ j < arr.size ∧ listed.getD j true = false) → Closed arr.toList listed → rem.length ≤ fuel → (∀ j ∈ rem, ∀ o, arr.toList[j]? = some o → Fresh o F) → wpAny P .any arr Q fuel listed a w := by
  intro fuel
  have least : ∀ (rem : List Nat) (listed : Array Bool), listed.size = arr.size → rem.Pairwise (· < ·) → (∀ j, j ∈ rem ↔ j < arr.size ∧ listed.getD j true = false) → Region.ready .any arr listed = [] → rem = [] := by
    intro rem listed hsz hp hrem hnil
    cases rem with
    | nil => rfl
    | cons i r =>
      exfalso
      obtain ⟨hi, hli⟩ := (hrem i).1 (by simp)
      have ho : arr.toList[i]? = some arr[i] := by rw [Array.getElem?_toList, Array.getElem?_eq_getElem hi]
      obtain ⟨hbefore, _⟩ := drawOk_spec hok ho
      have : i ∈ Region.ready .any arr listed := by
        rw [mem_ready]
        refine ⟨hli, arr[i], by rw [Array.getElem?_eq_getElem hi], fun e he hb => ?_⟩
        have hlt := hbefore e he hb
        have hnot : e.on ∉ i :: r := fun hm => by
          rcases List.mem_cons.1 hm with h | h
          · omega
          · have := (List.pairwise_cons.1 hp).1 e.on h; omega
        have hnl : ¬ (listed.getD e.on true = false) := fun hf => hnot ((hrem e.on).2 ⟨by omega, hf⟩)
        have hlt' : e.on < listed.size := by omega
        simp only [Array.getD, hlt', dite_true] at hnl ⊢
        simpa using hnl
      rw [hnil] at this
      cases this
  induction fuel with
  | zero =>
    intro rem listed F G a w col blk h he hr hsz hp hrem hcl hf hfr
    have hr0 : rem = [] := List.eq_nil_of_length_eq_zero (by omega)
    subst hr0
    simp only [runE, Option.some.injEq] at h
    subst h
    refine ⟨?_, hQ F a w col blk hr he⟩
    cases hrd : Region.ready .any arr listed with
    | nil => rfl
    | cons i r =>
      exfalso
      have hm : i ∈ Region.ready .any arr listed := by rw [hrd]; simp
      obtain ⟨h1, o, ho, _⟩ := mem_ready.1 hm
      have := (hrem i).2 ⟨(Array.getElem?_eq_some_iff.1 ho).1, h1⟩
      simp at this
  | succ fuel ih =>
    intro rem listed F G a w col blk h he hr hsz hp hrem hcl hf hfr
    refine ⟨fun hnil => ?_, fun i hi => ?_⟩
    · have := least rem listed hsz hp hrem hnil
      subst this
      simp only [runE, Option.some.injEq] at h
      subst h
      exact hQ F a w col blk hr he
    · obtain ⟨hli, o, ho, hall⟩ := mem_ready.1 hi
      have hlt : i < arr.size := (Array.getElem?_eq_some_iff.1 ho).1
      have ho' : arr.toList[i]? = some o := by rw [Array.getElem?_toList]; exact ho
      have hmem : i ∈ rem := (hrem i).2 ⟨hlt, hli⟩
      obtain ⟨pre, post, rfl⟩ := List.append_of_mem hmem
      have hpre : ∀ j ∈ pre, j < i := fun j hj => (List.pairwise_append.1 hp).2.2 j hj i (by simp)
      have hbef := ready_before hcl hi
      obtain ⟨_, hap⟩ := drawOk_spec hok ho'
      have hndp : (pre ++ [i]).Nodup := by
        have := hp.imp (fun {a b} (h : a < b) => Nat.ne_of_lt h)
        rw [show pre ++ i :: post = (pre ++ [i]) ++ post by simp] at this
        exact (List.pairwise_append.1 this).1
      have hnd : (pre ++ i :: post).Nodup := hp.imp fun h => Nat.ne_of_lt h
      obtain ⟨δ, G', h1, h2, h3⟩ := front (drawOk_dis hok) ho' (fun j hj => by
        rcases hap j (hpre j hj) with hb | hq
        · have hl := hbef j hb
          have hlr := ((hrem j).1 (by simp [hj]))
          have : j < listed.size := by omega
          simp only [Array.getD, this, dite_true] at hl hlr
          rw [hl] at hlr
          exact absurd hlr.2 (by simp)
        · exact hq) hndp (fun j hj => hfr j (by rcases List.mem_append.1 hj with hj | hj <;> simp_all)) h
      have hstep := eff_ok (K := wpAny P .any arr Q fuel (listed.setIfInBounds i true)) (Q := Q) hT hΓ hr (hd o (List.mem_of_getElem? ho')) h1 fun a' w' col' blk' hr' => by
        have hset : ∀ j (d : Bool), j ≠ i → (listed.setIfInBounds i true).getD j d = listed.getD j d := fun j d hj => getD_set_ne d (fun e => hj e.symm)
        have hseti : ∀ d, (listed.setIfInBounds i true).getD i d = true := fun d => by
          have : i < listed.size := by omega
          simp [Array.getD, this]
        refine ih (pre ++ post) (listed.setIfInBounds i true) (F.app δ) G' a' w' col' blk' h2 (h3.trans he) hr' (by simpa using hsz) ?_ (fun j => ?_) (fun m hm j hj => ?_) (by simp only [List.length_append, List.length_cons] at hf ⊢; omega)
          (fun j hj q hq => (hfr j (by rcases List.mem_append.1 hj with hj | hj <;> simp [hj]) q hq).step (drawOk_dis hok) hq ho' (fun e => by
            subst e
            obtain ⟨_, n2, n3⟩ := List.nodup_append.1 hnd
            rcases List.mem_append.1 hj with hj | hj
            · exact n3 j hj j (by simp) rfl
            · exact (List.nodup_cons.1 n2).1 hj) h1)
        · obtain ⟨p1, p2, p3⟩ := List.pairwise_append.1 hp
          exact List.pairwise_append.2 ⟨p1, (List.pairwise_cons.1 p2).2, fun x hx y hy => p3 x hx y (by simp [hy])⟩
        · by_cases hji : j = i
          · subst hji
            constructor
            · intro hm
              exfalso
              rcases List.mem_append.1 hm with hm | hm
              · have := hpre j hm; omega
              · have := (List.pairwise_cons.1 (List.pairwise_append.1 hp).2.1).1 j hm; omega
            · intro hh; rw [hseti] at hh; exact absurd hh.2 (by simp)
          · rw [hset j true hji, ← hrem j]
            simp [hji]
        · by_cases hmi : m = i
          · subst hmi
            have hl := hbef j hj
            by_cases hjm : j = m
            · subst hjm; exact hseti false
            · rw [hset j false hjm]; exact hl
          · rw [hset m false hmi] at hm
            have hl := hcl m hm j hj
            by_cases hji : j = i
            · subst hji; exact hseti false
            · rw [hset j false hji]; exact hl
      unfold wpOp
      rw [ho]
      simp only
      split
      · rename_i hw; rw [if_pos hw] at hstep; exact .inl hstep
      · rename_i hw; rw [if_neg hw] at hstep; exact hstep

theorem steps_runE {R : Type} {ops : List Oper} {k : Fr → Option R} {r : R} : ∀ (l : List Oper) (i : Nat) (F G : Fr), (∀ j : Nat, l[j]? = ops[i + j]?) → (∀ o ∈ l, nilOp o = none ∧ mOp Γ o = false) → steps Γ tt ops l F k = some r → Eqv F G → ∃ H H', runE Γ tt ops (List.range' i l.length) G = some H ∧ Eqv H' H ∧ k H' = some r
  | [], i, F, G, _, _, h, he => ⟨G, F, rfl, he, h⟩
  | o :: l, i, F, G, hl, hno, h, he => by
    simp only [steps] at h
    obtain ⟨δ, F', h1, h2, h3⟩ := step_some (hno o (by simp)).1 (hno o (by simp)).2 h
    have ho : ops[i]? = some o := by simpa using (hl 0).symm
    obtain ⟨H, H', h4, h5, h6⟩ := steps_runE l (i + 1) F' (G.app δ) (fun j => by have := hl (j + 1); simpa [Nat.add_assoc, Nat.add_comm 1 j] using this) (fun o ho => hno o (by simp [ho])) h3 (h2.trans (app_congr he δ))
    refine ⟨H, H', ?_, h5, h6⟩
    rw [List.length_cons, List.range'_succ, runE, ho]
    simp only
    rw [← eff_congr (F := F) (G := G) (fun s _ => by rw [he.1]) (.inl he.2), h1]
    exact h4

theorem Rel.drew (h : Rel w0 c0 n F a w col blk) : Rel w0 c0 n F a { w with drawn := w.drawn + 1 } col blk :=
  have hS : Same w { w with drawn := w.drawn + 1 } col col (fun _ => False) := ⟨⟨Nat.le_refl _, fun _ _ _ => rfl⟩, fun b o _ _ => ⟨fun _ => ⟨rfl, rfl⟩, rfl⟩⟩
  ⟨h.below.drew, h.old, h.fix.go hS ⟨fun h => h, fun h => h⟩, h.pin, fun s => hS.ent ⟨fun h => h, fun h => h⟩ (fun _ _ h => h) (fun _ _ => rfl) (h.ents s), fun k bx hk => hS.box ⟨fun h => h, fun h => h⟩ (fun h => h) (fun _ _ h => h) rfl (h.boxes k bx hk), h.defers, h.size⟩

theorem getE_keepE (keep : List Nat) : ∀ (v : List (Nat × Ent)) (s : Nat), getE (keepE keep v) s = if keep.any (Nat.beq s) then getE v s else .undef
  | [], s => by simp [keepE, getE]
  | (k, e) :: r, s => by
    simp only [keepE]
    cases hk : keep.any (Nat.beq k) with
    | true =>
      simp only [cond_true, getE]
      cases hks : Nat.beq k s with
      | true => have := Nat.eq_of_beq_eq_true hks; subst this; simp [hk]
      | false => exact getE_keepE keep r s
    | false =>
      simp only [cond_false, getE]
      cases hks : Nat.beq k s with
      | true => have := Nat.eq_of_beq_eq_true hks; subst this; rw [getE_keepE keep r]; simp [hk]
      | false => exact getE_keepE keep r s

theorem Rel.keep (keep : List Nat) (h : Rel w0 c0 n F a w col blk) : Rel w0 c0 n ⟨keepE keep F.v, F.b⟩ a w col blk :=
  ⟨h.below, h.old, h.fix, h.pin, fun s => by
    show EntOk _ _ _ _ _ (getE (keepE keep F.v) s) _
    rw [getE_keepE]
    split
    · exact h.ents s
    · trivial, h.boxes, h.defers, h.size⟩

/-! ## Code -/
def Ex.exit' : Ex → Exit
  | .normal => .normal
  | .exit id => .exit id
  | .ret => .ret

/-- Every slot that the code writes is one of the frame's. -/
def slotsOk (n : Nat) : Code → Bool
  | .region _ ops _ => ops.toList.all fun o => match o.dst with | some d => Nat.blt d n | none => true
  | .seq a b => slotsOk n a && slotsOk n b
  | .cond _ a b => slotsOk n a && slotsOk n b
  | .block _ a => slotsOk n a
  | .loop a => slotsOk n a
  | _ => true

theorem getE_canonE (v : List (Nat × Ent)) : ∀ (ss : List Nat) (s : Nat), getE (canonE v ss) s = getE v s ∨ getE (canonE v ss) s = .undef
  | [], s => .inr rfl
  | k :: r, s => by
    simp only [canonE, getE]
    cases hks : Nat.beq k s with
    | true => have := Nat.eq_of_beq_eq_true hks; subst this; exact .inl rfl
    | false => exact getE_canonE v r s

theorem getB_canonB (b : List (Nat × Box)) : ∀ (ss : List Nat) (s : Nat) (x : Box), getB (canonB b ss) s = some x → getB b s = some x
  | [], s, x, h => by simp [canonB, getB] at h
  | k :: r, s, x, h => by
    simp only [canonB] at h
    split at h
    · rename_i y hy
      simp only [getB] at h
      cases hks : Nat.beq k s with
      | true => rw [hks] at h; have := Nat.eq_of_beq_eq_true hks; subst this; rw [← h]; exact hy
      | false => rw [hks] at h; exact getB_canonB b r s x h
    · exact getB_canonB b r s x h

theorem Rel.canon' : ∀ (cut : Cuts) (p : List Nat) {F : Fr}, Rel w0 c0 n F a w col blk → Rel w0 c0 n (canonAt cut p F) a w col blk
  | [], p, F, h => h
  | (q, ss, bs) :: r, p, F, h => by
    simp only [canonAt]
    cases sameWay q p with
    | false => exact Rel.canon' r p h
    | true =>
      refine ⟨h.below, h.old, h.fix, h.pin, fun s => ?_, fun k bx hk => h.boxes k bx (getB_canonB F.b bs k bx hk), h.defers, h.size⟩
      show EntOk _ _ _ _ _ (getE (canonE F.v ss) s) _
      rcases getE_canonE F.v ss s with e | e <;> rw [e]
      · exact h.ents s
      · trivial

theorem Rel.canon (h : Rel w0 c0 n F a w col blk) (cut : Cuts) (p : List Nat) : Rel w0 c0 n (canonAt cut p F) a w col blk := Rel.canon' cut p h

theorem pass_some {R : Type} {n : Nat} {x : Option R} {r : R} (h : pass n x = some r) : x = some r := by
  cases n with
  | zero => cases h
  | succ n => exact h

theorem run_ok {R : Type} (hT : TTok P tt) (hΓ : ∀ c ∈ Γ, SoundAt P w0 c) (hm : P.follows .mixedOrders = true) {cut : Cuts} {keep : List Nat} {fu : List Nat → Fr → Nat} {r : R} : ∀ (c : Code), slotsOk n c = true → ∀ (cur : List Nat) (F : Fr) (k : Ex → Fr → Option R) (Q : Exit → Act → World → Prop) (a : Act) (w : World) (col : Col) (blk : Nat → Nat),
    run Γ tt cut keep fu c cur F k = some r → Rel w0 c0 n F a w col blk → (∀ e F' a' w' col' blk', Rel w0 c0 n F' a' w' col' blk' → k e F' = some r → Q e.exit' a' w') → c.wp P Q a w
  | .skip, _, cur, F, k, Q, a, w, col, blk, h, hr, hk => wp_skip (hk .normal F a w col blk hr h)
  | .ret, _, cur, F, k, Q, a, w, col, blk, h, hr, hk => wp_ret (hk .ret F a w col blk hr h)
  | .exit id, _, cur, F, k, Q, a, w, col, blk, h, hr, hk => wp_exit (hk (.exit id) F a w col blk hr h)
  | .region id ops draw, hs, cur, F, k, Q, a, w, col, blk, h, hr, hk => by
    have hd : ∀ o ∈ ops.toList, ∀ d, o.dst = some d → d < n := fun o ho d hd => by
      simp only [slotsOk, List.all_eq_true] at hs
      have := hs o ho
      rw [hd] at this
      simpa [Nat.blt_eq] using this
    simp only [run] at h
    cases hdr : draw && !(drawOk tt ops.toList && freshB ops.toList F && ops.toList.all fun o => !mOp Γ o) with
    | true => rw [hdr] at h; cases h
    | false =>
      rw [hdr] at h
      simp only [cond_false] at h
      cases draw with
      | false =>
        refine wp_region_list (steps_ok hT hΓ ops.toList F a w col blk hd h hr fun F' a' w' col' blk' hr' hk' => hk .normal _ a' w' col' blk' (hr'.keep keep) hk')
      | true =>
        have hboth : (drawOk tt ops.toList && freshB ops.toList F && ops.toList.all fun o => !mOp Γ o) = true := by simpa using hdr
        rw [Bool.and_eq_true, Bool.and_eq_true] at hboth
        obtain ⟨⟨hok, hfresh⟩, hmo⟩ := hboth
        obtain ⟨H, H', h1, h2, h3⟩ := steps_runE ops.toList 0 F F (fun j => by simp) (fun o ho => ⟨drawOk_nil hok o ho, by simpa using List.all_eq_true.1 hmo o ho⟩) h (Eqv.refl F)
        refine wp_region_any hm (any_ok hT hΓ hd hok (H := H) (fun F' a' w' col' blk' hr' he => ?_) ops.size (List.range' 0 ops.toList.length) (Array.replicate ops.size false) F H a _ col blk h1 (Eqv.refl H) hr.drew (by simp) List.pairwise_lt_range' (fun j => ?_) (fun m hm => ?_) (by simp) (fun j _ o ho => fresh_of hfresh o (List.mem_of_getElem? ho)))
        · exact hk .normal _ a' w' col' blk' ((hr'.congr (he.trans h2.symm)).keep keep) h3
        · simp only [List.mem_range'_1, Nat.zero_le, true_and, Nat.zero_add, Array.length_toList]
          constructor
          · intro hj; exact ⟨hj, by simp [Array.getD, hj]⟩
          · exact fun hj => hj.1
        · exfalso
          by_cases hlt : m < ops.size
          · simp [Array.getD, hlt] at hm
          · simp [Array.getD, hlt] at hm
  | .seq x y, hs, cur, F, k, Q, a, w, col, blk, h, hr, hk => by
    simp only [slotsOk, Bool.and_eq_true] at hs
    simp only [run] at h
    refine wp_seq (run_ok hT hΓ hm x hs.1 _ F _ _ a w col blk h hr fun e F' a' w' col' blk' hr' hk' => ?_)
    cases e with
    | normal =>
      simp only [seqK] at hk'
      exact run_ok hT hΓ hm y hs.2 _ (canonAt cut cur F') k Q a' w' col' blk' (pass_some hk') (hr'.canon cut cur) hk
    | exit id => exact hk (.exit id) F' a' w' col' blk' hr' hk'
    | ret => exact hk .ret F' a' w' col' blk' hr' hk'
  | .cond q x y, hs, cur, F, k, Q, a, w, col, blk, h, hr, hk => by
    simp only [slotsOk, Bool.and_eq_true] at hs
    simp only [run] at h
    split at h
    · rename_i b own he
      have hq := opn (tt := tt) hr 0 q
      rw [he] at hq
      have hv := repV_bool hq.1
      cases b with
      | true => exact wp_cond_true hv (run_ok hT hΓ hm x hs.1 _ F k Q a w col blk h hr hk)
      | false => exact wp_cond_false hv (run_ok hT hΓ hm y hs.2 _ F k Q a w col blk h hr hk)
    · cases h
  | .block id x, hs, cur, F, k, Q, a, w, col, blk, h, hr, hk => by
    simp only [run] at h
    refine wp_block (run_ok hT hΓ hm x (by simpa [slotsOk] using hs) _ F _ _ a w col blk h hr fun e F' a' w' col' blk' hr' hk' => ?_)
    cases e with
    | normal => exact hk .normal F' a' w' col' blk' hr' hk'
    | ret => exact hk .ret F' a' w' col' blk' hr' hk'
    | exit i =>
      simp only [blockK] at hk'
      show (if i = id then Q .normal a' w' else Q (.exit i) a' w')
      cases hb : Nat.beq i id with
      | true =>
        rw [hb] at hk'
        rw [if_pos (Nat.eq_of_beq_eq_true hb)]
        exact hk .normal F' a' w' col' blk' hr' hk'
      | false =>
        rw [hb] at hk'
        rw [if_neg (fun e => by subst e; simp at hb)]
        exact hk (.exit i) F' a' w' col' blk' hr' hk'
  | .loop x, hs, cur, F, k, Q, a, w, col, blk, h, hr, hk => by
    simp only [run] at h
    have hs' : slotsOk n x = true := by simpa [slotsOk] using hs
    have key : ∀ (m : Nat) (F : Fr) (a : Act) (w : World) (col : Col) (blk : Nat → Nat), loopN (canonAt cut cur) (run Γ tt cut keep fu x (0 :: cur)) m F k = some r → Rel w0 c0 n F a w col blk → Code.rounds P x Q m a w := by
      intro m
      induction m with
      | zero => intro F a w col blk h; simp [loopN] at h
      | succ m ih =>
        intro F a w col blk h hr
        simp only [loopN] at h
        refine run_ok hT hΓ hm x hs' _ F _ _ a w col blk h hr fun e F' a' w' col' blk' hr' hk' => ?_
        cases e with
        | normal => exact ih (canonAt cut cur F') a' w' col' blk' hk' (hr'.canon cut cur)
        | exit id => exact hk (.exit id) F' a' w' col' blk' hr' hk'
        | ret => exact hk .ret F' a' w' col' blk' hr' hk'
    exact wp_loop_rounds _ (key _ _ a w col blk h (hr.canon cut cur))
  | .rangeFunc _ _ _ _, _, cur, F, k, Q, a, w, col, blk, h, hr, hk => by simp [run] at h
  | .scope _, _, cur, F, k, Q, a, w, col, blk, h, hr, hk => by simp [run] at h
  | .label _, _, cur, F, k, Q, a, w, col, blk, h, hr, hk => by simp [run] at h
  | .goto _, _, cur, F, k, Q, a, w, col, blk, h, hr, hk => by simp [run] at h
  | .refuse _, _, cur, F, k, Q, a, w, col, blk, h, hr, hk => by simp [run] at h

end
end Go.Ev
