/-
  THE EVALUATOR, PART L: functions: what 'fnR' tells of a function's text is a contract of the function ('sound_of'); and the check of the type table.
-/
import Derived.Test.YthappjffpkpojaaEvK
namespace Go.Ev
open Go Go.RowKit
set_option linter.unusedVariables false
set_option linter.unusedSimpArgs false

/-! ## Arguments -/
def encCaps : (cs : List (Bool × Ty)) → CapsDen cs → List (Bool × DV)
  | [], _ => []
  | (b, t) :: r, x => (b, ⟨t, x.1⟩) :: encCaps r x.2

def encArg : (a : ATy) → a.den → Arg
  | .v t, x => .val ⟨t, x⟩
  | .pk t, x => .peek ⟨t, x⟩
  | .cl f cs, x => .clo f (encCaps cs x)

def encA : (as : List ATy) → DenA as → List Arg
  | [], _ => []
  | a :: r, x => encArg a x.1 :: encA r x.2

section
variable {P : Program} {tt : TT} {Γ : List Con} {w0 w w' : World} {c0 : En} {n : Nat} {F G : Fr} {a : Act} {col : Col} {blk : Nat → Nat} {o : Oper} {δ : Delta}

theorem encCaps_ok : ∀ {cs : List (Bool × Ty)} {x : CapsDen cs} {vs : List Value}, CapsRep w col cs x vs → All2 (fun (c : Bool × DV) v => if c.1 then Peek w col c.2 v else RepV w (Imm col) c.2.t c.2.x v) (encCaps cs x) vs
  | [], x, vs, h => by simp only [CapsRep] at h; subst h; exact .nil
  | (b, t) :: r, x, vs, h => by
    obtain ⟨v, vs', rfl, h1, h2⟩ := h
    exact .cons (by simpa using h1) (encCaps_ok h2)

theorem encArg_ok {A : ATy} {x : A.den} {v : Value} (h : ArgRep w col A x v) : ArgOk w col (encArg A x) v := by
  cases A with
  | v t => exact h
  | pk t => exact h
  | cl f cs =>
    obtain ⟨vs, hv, h2⟩ := h
    exact ⟨vs, hv, encCaps_ok h2⟩

theorem encA_ok : ∀ {as : List ATy} {x : DenA as} {vs : List Value}, ArgsRep w col as x vs → All2 (ArgOk w col) (encA as x) vs
  | [], x, vs, h => by simp only [ArgsRep] at h; subst h; exact .nil
  | A :: r, x, vs, h => by
    obtain ⟨v, vs', rfl, h1, h2⟩ := h
    exact .cons (encArg_ok h1) (encA_ok h2)

theorem encA_length : ∀ {as : List ATy} {x : DenA as}, (encA as x).length = as.length
  | [], _ => rfl
  | _ :: r, x => by simp [encA, encA_length (as := r)]

def argEnt : Arg → Ent
  | .val d => .val d false
  | .peek d => .peek d
  | .clo f cs => .clo f (cs.map fun | (false, d) => .val d | (true, d) => .peek d)

theorem startE_eq : ∀ (i : Nat) (as : List Arg) (v : List (Nat × Ent)), startE i as v = (match as with | [] => v | a :: r => startE (i + 1) r (setE v i (argEnt a)))
  | i, [], v => rfl
  | i, a :: r, v => by cases a <;> rfl

theorem getE_startE : ∀ (as : List Arg) (i : Nat) (v : List (Nat × Ent)) (s : Nat), getE (startE i as v) s = if i ≤ s ∧ s < i + as.length then ((as[s - i]?).map argEnt).getD .undef else getE v s
  | [], i, v, s => by
    simp only [startE, List.length_nil, Nat.add_zero]
    rw [if_neg (by omega)]
  | a :: r, i, v, s => by
    rw [startE_eq]
    simp only
    rw [getE_startE r (i + 1) _ s, getE_setE]
    by_cases h1 : s = i
    · subst h1
      rw [if_neg (by omega), if_pos rfl, if_pos (by simp)]
      simp
    · by_cases h2 : i + 1 ≤ s ∧ s < i + 1 + r.length
      · rw [if_pos h2, if_pos (by simp only [List.length_cons]; omega)]
        have : s - i = (s - (i + 1)) + 1 := by omega
        rw [this, List.getElem?_cons_succ]
      · rw [if_neg h2, if_neg h1, if_neg (by simp only [List.length_cons]; omega)]

theorem getE_undef : ∀ (keep : List Nat) (s : Nat), getE (keep.map fun s => (s, Ent.undef)) s = .undef
  | [], s => rfl
  | k :: r, s => by
    simp only [List.map_cons, getE]
    cases Nat.beq k s
    · exact getE_undef r s
    · rfl

theorem argEnt_ok {A : Arg} {v : Value} {B s : Nat} (h : ArgOk w col A v) : EntOk w col blk B s (argEnt A) v := by
  cases A with
  | val d => exact ⟨h, fun h => by simp at h⟩
  | peek d => exact h
  | clo f cs =>
    obtain ⟨vs, hv, ha⟩ := h
    refine ⟨vs, hv, ?_⟩
    clear hv
    induction ha with
    | nil => exact .nil
    | cons p _ ih =>
      rename_i c v' _ _ _
      obtain ⟨b, d⟩ := c
      refine .cons ?_ ih
      cases b <;> simpa [CapOk] using p

theorem getB_start : ∀ (bs : List Nat) (k : Nat) (bx : Box), getB (bs.map fun s => (s, (⟨.unit, (), []⟩ : Box))) k = some bx → bx = ⟨.unit, (), []⟩
  | [], k, bx, h => by simp [getB] at h
  | b :: r, k, bx, h => by
    simp only [List.map_cons, getB] at h
    cases hb : Nat.beq b k with
    | true => rw [hb] at h; simp only [cond_true, Option.some.injEq] at h; exact h.symm
    | false => rw [hb] at h; exact getB_start r k bx h

theorem start_rel {as : List Arg} {vs : List Value} {keep boxes : List Nat} {n : Nat} (hn : vs.length ≤ n) {c0 : Col} (h : All2 (ArgOk w (oldCol c0)) as vs) :
    Rel w ⟨c0, w, oldCol c0, fun _ => w.heap.size⟩ n (startF keep boxes as) { tmps := vs.toArray ++ Array.replicate (n - vs.toArray.size) undef, defers := [] } w (oldCol c0) (fun _ => w.heap.size) := by
  refine ⟨Below.refl _ _, fun _ _ _ => rfl, Same.refl, fun _ _ => rfl, fun s => ?_, fun k bx hk => by
    rw [getB_start boxes k bx hk]
    exact ⟨Nat.le_refl _, [], fun j v hv => by simp at hv, rfl, fun j hj => by simp at hj, fun off ho => by simp at ho⟩, rfl, by simp; omega⟩
  show EntOk _ _ _ _ _ (getE (startE 0 as _) s) _
  rw [getE_startE]
  by_cases hs : 0 ≤ s ∧ s < 0 + as.length
  · rw [if_pos hs, Nat.sub_zero]
    have hlt : s < as.length := by omega
    have hlv : s < vs.length := by rw [← h.length]; exact hlt
    rw [List.getElem?_eq_getElem hlt]
    obtain ⟨v, hv, hok⟩ := h.get (List.getElem?_eq_getElem hlt)
    have : (vs.toArray ++ Array.replicate (n - vs.toArray.size) undef).getD s undef = v := by
      rw [List.getElem?_eq_getElem hlv] at hv
      simp only [Option.some.injEq] at hv
      have hlt2 : s < (vs.toArray ++ Array.replicate (n - vs.toArray.size) undef).size := by simp; omega
      simp only [Array.getD, hlt2, dite_true]
      rw [← hv]
      simp [Array.getElem_append, hlv]
    rw [this]
    exact argEnt_ok hok
  · rw [if_neg hs, getE_undef]
    trivial

/-! ## Results -/
def resOne (tmps : Array Value) : ResultVar → Sem Value
  | .tmp t => pure (tmps.getD t undef)
  | .cell q t => do loadVar t (← asAddr (tmps.getD q undef))

theorem resD_ok (hT : TTok P tt) (hr : Rel w0 c0 n F a w col blk) {rv : ResultVar} {d : DV} {own : Bool} (h : resD tt F rv = some (d, own)) :
    ∃ v s, (resOne a.tmps rv).run P w = .ok v w ∧ RepV w (Imm col) d.t d.x v ∧ (own = true → Spare w col w0.heap.size (.sp s) (elSz d.t) v) := by
  cases rv with
  | tmp t =>
    simp only [resD] at h
    split at h
    · rename_i d' own' he
      simp only [Option.some.injEq, Prod.mk.injEq] at h
      obtain ⟨rfl, rfl⟩ := h
      have := hr.ents t
      rw [he] at this
      exact ⟨_, t, rfl, this.1, this.2⟩
    · cases h
  | cell q t =>
    simp only [resD] at h
    split at h
    · rename_i k off ti he hl
      split at h
      · rename_i bx hb
        cases hdt : decide (bx.t = ti.ty) with
        | false => rw [hdt] at h; cases h
        | true =>
          rw [hdt] at h
          simp only [cond_true, Option.some.injEq, Prod.mk.injEq] at h
          obtain ⟨rfl, rfl⟩ := h
          have hq := hr.ents q
          rw [he] at hq
          obtain ⟨hB, cs, hrg, hrep, _⟩ := hr.boxes k bx hb
          have hty : bx.t = ti.ty := of_decide_eq_true hdt
          obtain ⟨bt, bx', bo⟩ := bx
          simp only at hty
          subst hty
          have := run_loadVar (P := P) (hT t ti hl) hrep hrg
          exact ⟨_, 0, by unfold resOne; simp only; rw [show a.tmps.getD q undef = _ from hq]; simp [asAddr, this], repV_of hrep, fun h => by simp at h⟩
      · cases h
    · cases h

theorem resDs_ok (hT : TTok P tt) (hr : Rel w0 c0 n F a w col blk) : ∀ {rs : List ResultVar} {l : List (DV × Bool)}, resDs tt F rs = some l →
    ∃ vs, (rs.mapM (resOne a.tmps)).run P w = .ok vs w ∧
      All2 (fun (p : DV × Bool) v => RepV w (Imm col) p.1.t p.1.x v ∧ (p.2 = true → ∃ s, Spare w col w0.heap.size (.sp s) (elSz p.1.t) v)) l vs
  | [], l, h => by simp only [resDs, Option.some.injEq] at h; subst h; exact ⟨[], rfl, .nil⟩
  | rv :: rs, l, h => by
    simp only [resDs] at h
    split at h
    · rename_i x xs h1 h2
      simp only [Option.some.injEq] at h
      subst h
      obtain ⟨d, own⟩ := x
      obtain ⟨v, s, h3, h4, h5⟩ := resD_ok hT hr h1
      obtain ⟨vs, h6, h7⟩ := resDs_ok hT hr h2
      refine ⟨v :: vs, ?_, .cons ⟨h4, fun ho => ⟨s, h5 ho⟩⟩ h7⟩
      rw [List.mapM_cons, Sem.run_bind, h3, Result.andThen_ok, Sem.run_bind, h6, Result.andThen_ok]
      rfl
    · cases h

def resV (vs : List Value) : Value := match vs with
  | [v] => v
  | vs => .tuple vs.toArray

theorem run_results (fn : Func) (tmps : Array Value) {vs : List Value} (h : (fn.results.toList.mapM (resOne tmps)).run P w = .ok vs w) :
    (results fn tmps).run P w = .ok (resV vs) w := by
  have e : results fn tmps = (do let vs ← fn.results.mapM (resOne tmps); pure (if h : vs.size = 1 then vs[0] else .tuple vs)) := by
    unfold results
    congr 1
  rw [e, Array.mapM_eq_mapM_toList]
  simp only [map_eq_pure_bind, bind_assoc, pure_bind]
  rw [Sem.run_bind, h, Result.andThen_ok]
  match vs with
  | [] => rfl
  | [v] => rfl
  | v :: u :: r => simp [resV]

theorem decR_ok : ∀ {ts : List Ty} {l : List (DV × Bool)} {r : DenR ts} {vs : List Value}, decR ts (l.map (·.1)) = some r → All2 (fun (p : DV × Bool) v => RepV w (Imm col) p.1.t p.1.x v) l vs →
    All2 (fun (d : DV) v => RepV w (Imm col) d.t d.x v) (encR ts r) vs
  | [], l, r, vs, h, ha => by
    cases l with
    | nil => cases ha; exact .nil
    | cons _ _ => simp [decR] at h
  | [t], l, r, vs, h, ha => by
    cases ha with
    | nil => simp [decR] at h
    | cons p q =>
      rename_i x v xs vs'
      cases q with
      | nil =>
        simp only [List.map_cons, List.map_nil, decR] at h
        have := as_some h
        rw [this] at p
        exact .cons p .nil
      | cons _ _ => simp [decR] at h
  | t :: u :: ts, l, r, vs, h, ha => by
    cases ha with
    | nil => simp [decR] at h
    | cons p q =>
      rename_i x v xs vs'
      simp only [List.map_cons, decR] at h
      split at h
      · rename_i y ys h1 h2
        simp only [Option.some.injEq] at h
        subst h
        have := as_some h1
        rw [this] at p
        exact .cons p (decR_ok (ts := u :: ts) h2 q)
      · cases h

theorem encR_length : ∀ {ts : List Ty} {r : DenR ts}, (encR ts r).length = ts.length
  | [], _ => rfl
  | [_], _ => rfl
  | _ :: u :: r, x => by simp [encR, encR_length (ts := u :: r)]

theorem res_ok (hr : Rel w0 c0 n F a w col blk) (own : Bool) : ∀ {ts : List Ty} {r : DenR ts} {l : List (DV × Bool)} {vs : List Value}, decR ts (l.map (·.1)) = some r → ownOk own l = true →
    All2 (fun (p : DV × Bool) v => RepV w (Imm col) p.1.t p.1.x v ∧ (p.2 = true → ∃ s, Spare w col w0.heap.size (.sp s) (elSz p.1.t) v)) l vs →
    ∃ col', (∀ b o, b < w0.heap.size → col' b o = oldCol c0.c b o) ∧ ResRep w col' w0.heap.size ts own r (resV vs)
  | [], r, l, vs, hh, ho, hall => by
    have hl0 : l = [] := by cases l with
      | nil => rfl
      | cons _ _ => simp [decR] at hh
    subst hl0
    cases hall
    exact ⟨col, hr.old, [], rfl, .nil⟩
  | [t], r, l, vs, hh, ho, hall => by
    match l, vs, hall, hh, ho with
    | [], _, _, hh, _ => simp [decR] at hh
    | [p], [v], .cons q .nil, hh, ho =>
      simp only [List.map_cons, List.map_nil, decR] at hh
      have hp := as_some hh
      obtain ⟨q1, q2⟩ := q
      rw [hp] at q1 q2
      obtain ⟨pd, pown⟩ := p
      by_cases hown : (own && t.isSl) = true
      · have hpo : pown = true := by
          simp only [ownOk, Bool.or_eq_true, Bool.not_eq_true'] at ho
          simp only [Bool.and_eq_true] at hown
          rcases ho with ho | ho
          · rw [hown.1] at ho; cases ho
          · exact ho
        obtain ⟨s, hs⟩ := q2 hpo
        have hS : Same w w col (recolor col (.sp s) (.sp 0)) (· = .sp s) := recolor_same
        exact ⟨recolor col (.sp s) (.sp 0), recolor_old (by simp) hr.old, hS.repV (by simp) q1, fun _ => recolor_spare hs⟩
      · exact ⟨col, hr.old, q1, fun h => absurd h hown⟩
    | _ :: _ :: _, _, _, hh, _ => simp [decR] at hh
  | t :: u :: ts, r, l, vs, hh, ho, hall => by
    have hdec := decR_ok (ts := t :: u :: ts) hh (hall.imp fun _ _ h => h.1)
    have hl := hdec.length
    rw [encR_length] at hl
    refine ⟨col, hr.old, vs, ?_, hdec⟩
    match vs, hl with
    | [], hl => simp at hl
    | [v], hl => simp at hl
    | _ :: _ :: _, _ => rfl

/-! ## THE LAW -/
def fnOk (fn : Func) (k : Nat) : Bool := Nat.ble k fn.ntmps && (match fn.body with | some c => slotsOk fn.ntmps c | none => false) && !(fn.name == "runtime.NumGoroutine")

theorem sound_of (c : Con) (fn : Func) {cut : Cuts} {keep boxes : List Nat} {fu : DenA c.args → List Nat → Fr → Nat} (hT : TTok P tt) {J : World → Prop} (hJ : Keeps J) (hΓ : ∀ c ∈ Γ, SoundC P J c) (hm : P.follows .mixedOrders = true) (hf : P.funcs[c.f]? = some fn) (hok : fnOk fn c.args.length = true)
    (h : ∀ x r, c.fn x = some r → fnR Γ tt cut keep boxes (fu x) fn c.res c.own (encA c.args x) = some r) (hmu : c.mu = none := by kernel_rfl) : SoundC P J c := by
  simp only [fnOk, Bool.and_eq_true, Nat.ble_eq, Bool.not_eq_true'] at hok
  obtain ⟨⟨h1, h2⟩, h3⟩ := hok
  cases hb : fn.body with
  | none => rw [hb] at h2; cases h2
  | some code =>
    rw [hb] at h2
    refine ⟨⟨fn, hf, by rw [hb]; rfl, h3⟩, fun _ w c0 vs x r hw hx ha => ?_, fun pos cl own h => by rw [hmu] at h; cases h⟩
    have hR := h x r hx
    unfold fnR at hR
    rw [show codeOf fn = code by unfold codeOf; rw [hb]] at hR
    have hargs := encA_ok ha
    have hlen : vs.length = c.args.length := by rw [← hargs.length, encA_length]
    refine calls_of_wp hf hb ?_
    have hstart := start_rel (keep := keep) (boxes := boxes) (n := fn.ntmps) (w := w) (c0 := c0) (by omega) hargs
    refine run_ok hT (fun c hc => (hΓ c hc).at hJ hw) hm code h2 [] _ _ _ _ w (oldCol c0) _ hR hstart fun e F' a' w' col' blk' hr' hk => ?_
    have fin : (match resDs tt F' fn.results.toList with
        | some l => bif ownOk c.own l then decR c.res (l.map (·.1)) else none
        | none => none) = some r → a'.defers = [] ∧ ∃ v, (results fn a'.tmps).run P w' = .ok v w' ∧ PostC c c0 w r (.returned v) w' := fun hh => by
      refine ⟨hr'.defers, ?_⟩
      split at hh
      · rename_i l hl
        cases ho : ownOk c.own l with
        | false => rw [ho] at hh; cases hh
        | true =>
          rw [ho] at hh
          simp only [cond_true] at hh
          obtain ⟨vs', hv, hall⟩ := resDs_ok hT hr' hl
          obtain ⟨col2, h4, h5⟩ := res_ok hr' c.own hh ho hall
          exact ⟨_, run_results fn a'.tmps hv, _, col2, rfl, hr'.below, h4, h5⟩
      · cases hh
    cases e with
    | normal => exact fin hk
    | ret => exact fin hk
    | exit id => simp [retK] at hk


/-! ## Functions that turn a variable of the caller's -/
theorem getE_setFrom : ∀ (es : List Ent) (i : Nat) (v : List (Nat × Ent)) (s : Nat), getE (setFrom i es v) s = if i ≤ s ∧ s < i + es.length then (es[s - i]?).getD .undef else getE v s
  | [], i, v, s => by
    simp only [setFrom, List.length_nil, Nat.add_zero]
    rw [if_neg (by omega)]
  | e :: r, i, v, s => by
    simp only [setFrom]
    rw [getE_setFrom r (i + 1) _ s, getE_setE]
    by_cases h1 : s = i
    · subst h1
      rw [if_neg (by omega), if_pos rfl, if_pos (by simp)]
      simp
    · by_cases h2 : i + 1 ≤ s ∧ s < i + 1 + r.length
      · rw [if_pos h2, if_pos (by simp only [List.length_cons]; omega)]
        have : s - i = (s - (i + 1)) + 1 := by omega
        rw [this, List.getElem?_cons_succ]
      · rw [if_neg h2, if_neg h1, if_neg (by simp only [List.length_cons]; omega)]

theorem mrep_split {w : World} {col : Col} {B k b : Nat} {own : List Nat} : ∀ {cs : List ATy} {x : DenA cs} {vs : List Value}, MRep w col B k b own cs x vs →
    ∃ as d, splitArg (encA cs x) = some (as, d) ∧ All2 (fun (A : Arg) v => ∃ d, A = .val d ∧ RepV w (Imm col) d.t d.x v) as vs ∧ BoxOk w col (fun _ => b) B k ⟨d.t, d.x, own⟩
  | [], x, vs, h => by simp [MRep] at h
  | [.v t], x, vs, h => by
    obtain ⟨rfl, hb⟩ := h
    exact ⟨[], ⟨t, x.1⟩, rfl, .nil, hb⟩
  | .v t :: a :: r, x, vs, h => by
    obtain ⟨v, vs', rfl, hv, hr⟩ := h
    obtain ⟨as, d, h1, h2, h3⟩ := mrep_split hr
    refine ⟨.val ⟨t, x.1⟩ :: as, d, ?_, .cons ⟨_, rfl, hv⟩ h2, h3⟩
    show (match splitArg (encArg a x.2.1 :: encA r x.2.2) with | some (l, y) => some (Arg.val ⟨t, x.1⟩ :: l, y) | none => none) = some (Arg.val ⟨t, x.1⟩ :: as, d)
    have h1' : splitArg (encArg a x.2.1 :: encA r x.2.2) = some (as, d) := h1
    rw [h1']
  | .pk _ :: _, x, vs, h => by simp [MRep] at h
  | .cl _ _ :: _, x, vs, h => by simp [MRep] at h

/-- How the call sees what was there: its variable, what nobody turns, all else. -/
def inCol (col : Col) (k : Nat) : Col := fun b o => match col b o with
  | .imm => .imm
  | .box k' => if k' = k then .box KB else .old
  | .spb k' off => if k' = k then .spb KB off else .old
  | _ => .old

def outTag (k : Nat) : Tag → Tag
  | .imm => .imm
  | .box k' => if k' = KB then .box k else .dead
  | .spb k' off => if k' = KB then .spb k off else .dead
  | _ => .dead

open Classical in
noncomputable def outCol (B : Nat) (w : World) (col col' : Col) (k : Nat) : Col := fun b o =>
  if b < B ∨ (b < w.heap.size ∧ ¬ MT k (col b o)) then col b o else outTag k (col' b o)

theorem inCol_calm {col : Col} {k b o : Nat} (h : ¬ MT k (col b o)) : inCol col k b o = .imm ∨ inCol col k b o = .old := by
  unfold inCol
  split
  · exact .inl rfl
  · rename_i k' he
    split
    · rename_i e; subst e; exact absurd (.inl he) h
    · exact .inr rfl
  · rename_i k' off he
    split
    · rename_i e; subst e; exact absurd (.inr ⟨off, he⟩) h
    · exact .inr rfl
  · exact .inr rfl

theorem inCol_imm {col : Col} {k b o : Nat} : inCol col k b o = .imm ↔ col b o = .imm := by
  unfold inCol
  split
  · rename_i h; simp [h]
  · rename_i k' h; rw [h]; split <;> simp
  · rename_i k' off h; rw [h]; split <;> simp
  · rename_i h _ _; exact ⟨fun h' => absurd h' (by simp), fun h' => absurd h' h⟩

theorem sameNats_refl : ∀ (l : List Nat), sameNats l l = true
  | [] => rfl
  | a :: r => by simp [sameNats, sameNats_refl r]

theorem splitLast_append : ∀ (l : List DV) (d : DV), splitLast (l ++ [d]) = some (l, d)
  | [], d => rfl
  | [a], d => rfl
  | a :: b :: r, d => by
    have := splitLast_append (b :: r) d
    simp only [List.cons_append] at this ⊢
    simp only [splitLast, this]

theorem encR_decR : ∀ {ts : List Ty} {l : List DV} {r : DenR ts}, decR ts l = some r → encR ts r = l
  | [], l, r, h => by
    cases l with
    | nil => rfl
    | cons _ _ => simp [decR] at h
  | [t], l, r, h => by
    match l, h with
    | [d], h =>
      simp only [decR] at h
      have := as_some h
      subst this
      rfl
    | [], h => simp [decR] at h
    | _ :: _ :: _, h => simp [decR] at h
  | t :: u :: ts, l, r, h => by
    match l, h with
    | [], h => simp [decR] at h
    | d :: r', h =>
      simp only [decR] at h
      split at h
      · rename_i y ys h1 h2
        simp only [Option.some.injEq] at h
        subst h
        have := as_some h1
        subst this
        show ⟨t, y⟩ :: encR (u :: ts) ys = _
        rw [encR_decR h2]
      · cases h

theorem sound_ofM (c : Con) (fn : Func) {cut : Cuts} {keep boxes : List Nat} {fu : DenA c.args → List Nat → Fr → Nat} {pos : Nat} {cl : Option Nat} {own : List Nat} (hT : TTok P tt) {J : World → Prop} (hJ : Keeps J) (hΓ : ∀ c ∈ Γ, SoundC P J c) (hm : P.follows .mixedOrders = true)
    (hf : P.funcs[c.f]? = some fn) (hok : (fnOk fn c.args.length && Nat.ble fn.ntmps KB) = true)
    (h : ∀ x r, c.fn x = some r → fnM Γ tt cut keep boxes (fu x) fn c.res pos cl own (encA c.args x) = some r) (hmu : c.mu = some (pos, cl, own)) : SoundC P J c := by
  rw [Bool.and_eq_true] at hok
  obtain ⟨hok, hkb⟩ := hok
  simp only [fnOk, Bool.and_eq_true, Nat.ble_eq, Bool.not_eq_true'] at hok hkb
  obtain ⟨⟨h1, h2⟩, h3⟩ := hok
  cases hb : fn.body with
  | none => rw [hb] at h2; cases h2
  | some code =>
    rw [hb] at h2
    refine ⟨⟨fn, hf, by rw [hb]; rfl, h3⟩, fun hn => absurd (hmu.symm.trans hn) (by simp), fun pos' cl' own' hm' w0 w col vs x r k b hJ0 hbel hcol hx hrep hpl => ?_⟩
    rw [hmu] at hm'
    simp only [Option.some.injEq, Prod.mk.injEq] at hm'
    obtain ⟨rfl, rfl, rfl⟩ := hm'
    have hR := h x r hx
    unfold fnM at hR
    obtain ⟨as, d, hsplit, hall, hbox⟩ := mrep_split hrep
    rw [hsplit] at hR
    simp only at hR
    rw [show codeOf fn = code by unfold codeOf; rw [hb]] at hR
    have hlen : vs.length + 1 = c.args.length := by
      have : ∀ {cs : List ATy} {x : DenA cs} {vs : List Value}, MRep w col w0.heap.size k b own cs x vs → vs.length + 1 = cs.length := by
        intro cs
        induction cs with
        | nil => intro x vs h; simp [MRep] at h
        | cons c r ih =>
          intro x vs h
          cases r with
          | nil =>
            cases c with
            | v t => obtain ⟨rfl, _⟩ := h; rfl
            | pk _ => simp [MRep] at h
            | cl _ _ => simp [MRep] at h
          | cons c' r' =>
            cases c with
            | v t => obtain ⟨v, vs', rfl, _, hr⟩ := h; simp only [List.length_cons]; rw [ih hr]; rfl
            | pk _ => simp [MRep] at h
            | cl _ _ => simp [MRep] at h
      exact this hrep
    have hal := hall.length
    obtain ⟨hB, cs, hrg, hcs, hcb, hco⟩ := hbox
    -- the start
    have hsame : ∀ b o, Imm col b o → Imm (inCol col k) b o := fun b o hi => inCol_imm.2 hi
    have hstart : Rel w0 ⟨inCol col k, w, inCol col k, fun k' => if k' = KB then b else w.heap.size⟩ fn.ntmps
        ⟨startM as pos cl (keep.map fun s => (s, .undef)), (KB, ⟨d.t, d.x, own⟩) :: boxes.map fun s => (s, ⟨.unit, (), []⟩)⟩
        { tmps := (vs.take pos ++ muV cl b :: vs.drop pos).toArray ++ Array.replicate (fn.ntmps - (vs.take pos ++ muV cl b :: vs.drop pos).toArray.size) undef, defers := [] }
        w (inCol col k) (fun k' => if k' = KB then b else w.heap.size) := by
      refine ⟨hbel, fun b' o' hb' => ?_, Same.refl, fun _ _ => rfl, fun s => ?_, fun k' bx hk' => ?_, rfl, by simp; omega⟩
      · have hc := hcol b' o' hb'
        show inCol col k b' o' = oldCol (inCol col k) b' o'
        unfold oldCol
        rcases hc with hc | hc
        · rw [if_pos (inCol_imm.2 hc)]; exact inCol_imm.2 hc
        · rw [if_neg (fun h => by rw [inCol_imm.1 h] at hc; cases hc)]
          unfold inCol; rw [hc]
      · show EntOk _ _ _ _ _ (getE (setFrom 0 _ _) s) _
        rw [getE_setFrom]
        by_cases hs : 0 ≤ s ∧ s < 0 + ((as.map valE).take pos ++ muE cl KB :: (as.map valE).drop pos).length
        · rw [if_pos hs, Nat.sub_zero]
          have hents : All2 (fun e v => EntOk w (inCol col k) (fun k' => if k' = KB then b else w.heap.size) w0.heap.size s e v) ((as.map valE).take pos ++ muE cl KB :: (as.map valE).drop pos)
              (vs.take pos ++ muV cl b :: vs.drop pos) := by
            have hv : All2 (fun e v => EntOk w (inCol col k) (fun k' => if k' = KB then b else w.heap.size) w0.heap.size s e v) (as.map valE) vs := by
              clear hsplit hpl hlen hal hR hs hrep
              induction hall with
              | nil => exact .nil
              | cons p _ ih =>
                obtain ⟨d, rfl, hd⟩ := p
                exact .cons ⟨hd.mono fun b o hi _ => ⟨rfl, hsame b o hi⟩, fun h => by simp at h⟩ ih
            have hmuE : EntOk w (inCol col k) (fun k' => if k' = KB then b else w.heap.size) w0.heap.size s (muE cl KB) (muV cl b) := by
              cases cl with
              | none => simp [muE, muV, EntOk]
              | some g => exact ⟨[.pointer (some ⟨b, 0, none⟩)], rfl, .cons (by simp [CapOk]) .nil⟩
            have hsp : ∀ (n : Nat) {es : List Ent} {vs : List Value}, All2 (fun e v => EntOk w (inCol col k) (fun k' => if k' = KB then b else w.heap.size) w0.heap.size s e v) es vs →
                All2 (fun e v => EntOk w (inCol col k) (fun k' => if k' = KB then b else w.heap.size) w0.heap.size s e v) (es.take n ++ muE cl KB :: es.drop n) (vs.take n ++ muV cl b :: vs.drop n) := by
              intro n
              induction n with
              | zero => intro es vs h; exact .cons hmuE h
              | succ n ih =>
                intro es vs h
                cases h with
                | nil => exact .cons hmuE .nil
                | cons p q => exact .cons p (ih q)
            exact hsp pos hv
          have hlt : s < ((as.map valE).take pos ++ muE cl KB :: (as.map valE).drop pos).length := by omega
          rw [List.getElem?_eq_getElem hlt]
          have hlv : s < (vs.take pos ++ muV cl b :: vs.drop pos).length := by rw [← hents.length]; exact hlt
          have hg := hents.get2 s _ _ (List.getElem?_eq_getElem hlt) (List.getElem?_eq_getElem hlv)
          have : ((vs.take pos ++ muV cl b :: vs.drop pos).toArray ++ Array.replicate (fn.ntmps - (vs.take pos ++ muV cl b :: vs.drop pos).toArray.size) undef).getD s undef = (vs.take pos ++ muV cl b :: vs.drop pos)[s] := by
            have hlt2 : s < ((vs.take pos ++ muV cl b :: vs.drop pos).toArray ++ Array.replicate (fn.ntmps - (vs.take pos ++ muV cl b :: vs.drop pos).toArray.size) undef).size := by
              rw [Array.size_append]; simp only [List.size_toArray]; omega
            simp only [Array.getD, hlt2, dite_true]
            simp only [Array.getInternal_eq_getElem]
            rw [Array.getElem_append_left (by simpa using hlv)]
            simp
          rw [this]
          exact hg
        · rw [if_neg hs, getE_undef]
          trivial
      · simp only [getB] at hk'
        cases hkk : Nat.beq KB k' with
        | true =>
          rw [hkk] at hk'
          simp only [cond_true, Option.some.injEq] at hk'
          subst hk'
          have := Nat.eq_of_beq_eq_true hkk
          subst this
          refine ⟨by simpa using hB, cs, by simpa using hrg, hcs.mono fun b o hi _ => ⟨rfl, hsame b o hi⟩, fun j hj => ?_, fun off ho => ?_⟩
          · have := hcb j hj
            simp only [if_true] at this ⊢
            exact ⟨by unfold inCol; rw [this.1]; simp, this.2⟩
          · obtain ⟨v, e, h4, h5, h6⟩ := hco off ho
            refine ⟨v, e, h4, h5, ?_⟩
            rcases h6 with h6 | ⟨b', o', n', cap, h6, h7, h8, h9⟩
            · exact .inl h6
            · exact .inr ⟨b', o', n', cap, h6, h7, h8, fun j hj => by
                obtain ⟨p, q⟩ := h9 j hj
                exact ⟨by unfold inCol; rw [p]; simp, q⟩⟩
        | false =>
          rw [hkk] at hk'
          simp only [cond_false] at hk'
          have hbx := getB_start boxes k' bx hk'
          subst hbx
          have hne : k' ≠ KB := fun e => by subst e; simp at hkk
          refine ⟨by simp only [if_neg hne]; exact hbel.size, [], fun j v hv => by simp at hv, rfl, fun j hj => by simp at hj, fun off ho => by simp at ho⟩
    refine calls_of_wp hf hb ?_
    refine run_ok hT (fun c hc => (hΓ c hc).at hJ hJ0) hm code h2 [] _ _ _ _ w (inCol col k) _ hR hstart fun e F' a' w' col' blk' hr' hk => ?_
    have fin : (match resDs tt F' fn.results.toList, getB F'.b KB with
        | some l, some bx => bif sameNats bx.own own then decR c.res (l.map (·.1) ++ [⟨bx.t, bx.x⟩]) else none
        | _, _ => none) = some r → a'.defers = [] ∧ ∃ v, (results fn a'.tmps).run P w' = .ok v w' ∧ PostM c w0 w col k b own r (.returned v) w' := fun hh => by
      refine ⟨hr'.defers, ?_⟩
      split at hh
      case h_2 => cases hh
      rename_i l bx hl hbx
      cases ho : sameNats bx.own own with
      | false => rw [ho] at hh; cases hh
      | true =>
      rw [ho] at hh
      simp only [cond_true] at hh
      have hown := sameNats_eq ho
      obtain ⟨vs', hv, hall'⟩ := resDs_ok hT hr' hl
      have hblk : blk' KB = b := by
        have := hr'.pin KB hkb
        simpa using this
      have hfix := hr'.fix
      have himm : ∀ b' o', Imm col' b' o' → (w'.cell? ⟨b', o', none⟩).isSome = true → Imm (outCol w0.heap.size w col col' k) b' o' := fun b' o' hi _ => by
        unfold Imm outCol at *
        split
        · rename_i hc
          rcases hc with hc | ⟨hc, hT'⟩
          · have := hr'.old b' o' hc
            rw [hi] at this
            unfold oldCol at this
            split at this
            · rename_i he; exact inCol_imm.1 he
            · cases this
          · have h0 := inCol_calm hT'
            obtain ⟨_, h9⟩ := hfix.2 b' o' hc (fun h => h0.elim h.1 h.2)
            rw [hi] at h9
            exact inCol_imm.1 h9.symm
        · rw [hi]; rfl
      have htag : ∀ (T T' : Tag), (T ≠ .imm ∧ T ≠ .old) → outTag k T = T' → ∀ b' o', w0.heap.size ≤ b' → col' b' o' = T → outCol w0.heap.size w col col' k b' o' = T' := fun T T' hT' hT2 b' o' hb' hc => by
        unfold outCol
        rw [if_neg, hc, hT2]
        rintro (h | ⟨h, h5⟩)
        · omega
        · have h0 := inCol_calm h5
          obtain ⟨_, h9⟩ := hfix.2 b' o' h (fun h => h0.elim h.1 h.2)
          rw [hc] at h9
          rcases h0 with e | e
          · exact hT'.1 (h9.trans e)
          · exact hT'.2 (h9.trans e)
      obtain ⟨hB', cs', hrg', hcs', hcb', hco'⟩ := hr'.boxes KB bx hbx
      refine ⟨_, run_results fn a'.tmps hv, resV vs', outCol w0.heap.size w col col' k, l.map (·.1), ⟨bx.t, bx.x⟩, rfl, ?_, hr'.below, fun b' o' hb' => by unfold outCol; rw [if_pos (.inl hb')], ⟨hfix.1, fun b' o' hs hT' => ?_⟩, ?_, ?_⟩
      · rw [encR_decR hh, splitLast_append]
      · have h0 := inCol_calm hT'
        obtain ⟨p, _⟩ := hfix.2 b' o' hs (fun h => h0.elim h.1 h.2)
        exact ⟨p, by unfold outCol; rw [if_pos (.inr ⟨hs, hT'⟩)]⟩
      · rw [hblk] at hB' hrg' hcb'
        refine ⟨hB', cs', hrg', hcs'.mono fun b' o' hi hs => ⟨rfl, himm b' o' hi hs⟩, fun j hj => ⟨htag _ _ (by simp) (by simp [outTag]) b j hB' (hcb' j hj).1, (hcb' j hj).2⟩, fun off ho' => ?_⟩
        rw [← hown] at ho'
        obtain ⟨v, e, h4, h5, h6⟩ := hco' off ho'
        refine ⟨v, e, h4, h5, ?_⟩
        rcases h6 with h6 | ⟨b', o', n', cap, h6, h7, h8, h9⟩
        · exact .inl h6
        · exact .inr ⟨b', o', n', cap, h6, h7, h8, fun j hj => by
            obtain ⟨p, q⟩ := h9 j hj
            exact ⟨htag _ _ (by simp) (by simp [outTag]) b' (o' + j) h7.1 p, q⟩⟩
      · have hall2 : All2 (fun (d : DV) v => RepV w' (Imm (outCol w0.heap.size w col col' k)) d.t d.x v) (l.map (·.1)) vs' := by
          clear hv hl hh
          induction hall' with
          | nil => exact .nil
          | cons p _ ih => exact .cons (p.1.mono fun b' o' hi hs => ⟨rfl, himm b' o' hi hs⟩) ih
        unfold resOf
        split
        · rename_i d hd
          rw [hd] at hall2
          match vs', hall2 with
          | [v], .cons p .nil => exact ⟨p, fun h => by simp at h⟩
        · rename_i hne
          refine ⟨vs', ?_, hall2⟩
          match vs', hall2 with
          | [], _ => rfl
          | [v], hall2 =>
            exfalso
            obtain ⟨d, hd⟩ := List.length_eq_one_iff.1 (hall2.length.trans rfl)
            exact hne d hd
          | _ :: _ :: _, _ => rfl
    cases e with
    | normal => exact fin hk
    | ret => exact fin hk
    | exit id => simp [retM] at hk

end
end Go.Ev
