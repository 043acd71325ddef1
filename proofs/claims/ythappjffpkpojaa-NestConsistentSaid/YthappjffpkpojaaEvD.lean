/-
  THE EVALUATOR, PART D: each operation of the text does what 'core' tells: the plain ones.
-/
import Derived.Test.YthappjffpkpojaaEvC
namespace Go.Ev
open Go Go.RowKit
set_option linter.unusedVariables false
set_option linter.unusedSimpArgs false

def Good (P : Program) (w0 : World) (c0 : En) (n : Nat) (F' : Fr) (o : Oper) (a : Act) (w : World) : Prop :=
  ∀ (K : Act → World → Prop) (Q : Exit → Act → World → Prop), (∀ a' w' col' blk', Rel w0 c0 n F' a' w' col' blk' → K a' w') → o.wp P a w K Q

theorem put_some {o : Oper} {e : Ent} {more : List (Nat × Ent)} {δ : Delta} (h : put o some e more = some δ) : ∃ d, o.dst = some d ∧ δ = ⟨none, more ++ [(d, e)], []⟩ := by
  unfold put at h
  cases hd : o.dst with
  | none => simp [hd] at h
  | some d => simp only [hd, Option.some.injEq] at h; exact ⟨d, rfl, h.symm⟩

section
variable {P : Program} {tt : TT} {Γ : List Con} {w0 w w' : World} {c0 : En} {n : Nat} {F : Fr} {a : Act} {col : Col} {blk : Nat → Nat} {o : Oper} {δ : Delta} {tr : Bool}

theorem good_of {F' : Fr} {v : Value} {col' : Col} {blk' : Nat → Nat} (hrun : (execOp a.eval o).run P w = .ok (.value v) w') (hr : Rel w0 c0 n F' (a.put o.dst v) w' col' blk') : Good P w0 c0 n F' o a w := by
  intro K Q hK
  unfold Oper.wp
  rw [hrun]
  exact hK _ _ _ _ hr

/-- The world stays as it is; slot d takes an entry. -/
theorem good_put0 {v : Value} {e : Ent} (hr : Rel w0 c0 n F a w col blk) (h : put o some e [] = some δ) (hd : ∀ d, o.dst = some d → d < n)
    (hrun : (execOp a.eval o).run P w = .ok (.value v) w) (he : ∀ d, EntOk w col blk w0.heap.size d e v) : Good P w0 c0 n (F.app δ) o a w := by
  obtain ⟨d, hdst, rfl⟩ := put_some h
  exact good_of hrun (by rw [hdst]; exact hr.put0 (hd d hdst) (he d))

def slot : Operand → Nat
  | .tmp t => t
  | _ => 0

theorem const_ok (ty : Nat) (c : Value) (s : Nat) : EntOk w col blk w0.heap.size s (constE tt ty c) c := by
  unfold constE
  split
  · exact ⟨⟨_, rfl, .inr ⟨rfl, rfl⟩⟩, fun h => by simp at h⟩
  · exact ⟨⟨_, rfl, .inr ⟨rfl, rfl⟩⟩, fun h => by simp at h⟩
  · exact ⟨⟨_, rfl, .inr ⟨rfl, rfl⟩⟩, fun h => by simp at h⟩
  · split
    · split
      · exact ⟨⟨_, ⟨_, rfl, .inl ⟨rfl, rfl⟩⟩, .inr ⟨rfl, rfl⟩⟩, fun _ => .inl rfl⟩
      · trivial
    · trivial
  · trivial

theorem opn (hr : Rel w0 c0 n F a w col blk) (ty : Nat) (x : Operand) : EntOk w col blk w0.heap.size (slot x) (ent tt (getE F.v) ty x) (a.eval x) := by
  cases x with
  | tmp t => exact hr.ents t
  | const c => exact const_ok ty c _
  | func f => exact ⟨[], rfl, .nil⟩
  | global g => trivial

theorem repV_int {I : Nat → Nat → Prop} {k : IntKind} {x : Int} {v : Value} (h : RepV w I (.int k) x v) : v = .int k x := by
  obtain ⟨cs, h1, h2⟩ := h
  rcases h2 with ⟨h2, _⟩ | ⟨_, h2⟩
  · simp [Ty.agg] at h2
  · subst h2; simp only [RepC, List.cons.injEq, and_true] at h1; exact h1

theorem repV_bool {I : Nat → Nat → Prop} {x : Bool} {v : Value} (h : RepV w I .bool x v) : v = .bool x := by
  obtain ⟨cs, h1, h2⟩ := h
  rcases h2 with ⟨h2, _⟩ | ⟨_, h2⟩
  · simp [Ty.agg] at h2
  · subst h2; simp only [RepC, List.cons.injEq, and_true] at h1; exact h1

theorem repV_str {I : Nat → Nat → Prop} {x : ByteArray} {v : Value} (h : RepV w I .str x v) : v = .string x := by
  obtain ⟨cs, h1, h2⟩ := h
  rcases h2 with ⟨h2, _⟩ | ⟨_, h2⟩
  · simp [Ty.agg] at h2
  · subst h2; simp only [RepC, List.cons.injEq, and_true] at h1; exact h1

theorem repV_sl {I : Nat → Nat → Prop} {e : Ty} {xs : List e.den} {v : Value} (h : RepV w I (.sl e) xs v) :
    (v = .slice none 0 0 ∧ xs = []) ∨ ∃ b o cap es, v = .slice (some ⟨b, o, none⟩) xs.length cap ∧ xs.length ≤ cap ∧
      RepL (RepC w I e) xs es ∧ w.rangeAt b o es ∧ ∀ j, j < es.length → I b (o + j) := by
  obtain ⟨cs, h1, h2⟩ := h
  rcases h2 with ⟨h2, _⟩ | ⟨_, h2⟩
  · simp [Ty.agg] at h2
  · subst h2
    obtain ⟨v', h3, h4⟩ := h1
    simp only [List.cons.injEq, and_true] at h3
    subst h3
    exact h4

theorem repV_of_int {I : Nat → Nat → Prop} (k : IntKind) (x : Int) : RepV w I (.int k) x (.int k x) := ⟨_, rfl, .inr ⟨rfl, rfl⟩⟩
theorem repV_of_bool {I : Nat → Nat → Prop} (x : Bool) : RepV w I .bool x (.bool x) := ⟨_, rfl, .inr ⟨rfl, rfl⟩⟩

/-- The cells of a value. -/
theorem repV_cells {I : Nat → Nat → Prop} {t : Ty} {x : t.den} {v : Value} (h : RepV w I t x v) : RepC w I t x v.cells.toList := by
  obtain ⟨cs, h1, h2⟩ := h
  rcases h2 with ⟨h2, rfl⟩ | ⟨h2, rfl⟩
  · simpa [Value.cells] using h1
  · have : v.cells = #[v] := by
      have := h1.one v (by simp)
      cases v <;> simp_all [Value.cells, Value.oneCell']
    rw [this]; simpa using h1

theorem repV_single {I : Nat → Nat → Prop} {t : Ty} {x : t.den} {v : Value} (ha : t.agg = false) (h : RepV w I t x v) : v.cells = #[v] := by
  obtain ⟨cs, h1, h2⟩ := h
  rcases h2 with ⟨h2, rfl⟩ | ⟨h2, rfl⟩
  · rw [ha] at h2; cases h2
  · have := h1.one v (by simp)
    cases v <;> simp_all [Value.cells, Value.oneCell']

theorem repV_size {I : Nat → Nat → Prop} {t : Ty} {x : t.den} {v : Value} (h : RepV w I t x v) : v.cells.size = t.size := by
  have := (repV_cells h).length
  simpa using this

/-- A value out of its cells. -/
def valueOf (t : Ty) (cs : List Value) : Value := if t.agg then .agg cs.toArray else cs.headD undef

theorem repV_of {I : Nat → Nat → Prop} {t : Ty} {x : t.den} {cs : List Value} (h : RepC w I t x cs) : RepV w I t x (valueOf t cs) := by
  refine ⟨cs, h, ?_⟩
  unfold valueOf
  cases ha : t.agg with
  | true => exact .inl ⟨rfl, by simp⟩
  | false =>
    refine .inr ⟨rfl, ?_⟩
    have hl := h.length
    have : t.size = 1 := by cases t <;> simp_all [Ty.agg, Ty.size]
    rw [this] at hl
    obtain ⟨c, rfl⟩ := List.length_eq_one_iff.1 hl
    simp

theorem ent_val {hr : Rel w0 c0 n F a w col blk} {ty : Nat} {x : Operand} {d : DV} {own : Bool} (h : ent tt (getE F.v) ty x = .val d own) : RepV w (Imm col) d.t d.x (a.eval x) := by
  have := opn (tt := tt) hr ty x
  rw [h] at this
  exact this.1

theorem ent_own {hr : Rel w0 c0 n F a w col blk} {ty : Nat} {x : Operand} {d : DV} (h : ent tt (getE F.v) ty x = .val d true) : Spare w col w0.heap.size (.sp (slot x)) (elSz d.t) (a.eval x) := by
  have := opn (tt := tt) hr ty x
  rw [h] at this
  exact this.2 rfl

/-! ### Colors that turn -/
def recolor (col : Col) (x y : Tag) : Col := fun b o => if col b o = x then y else col b o

theorem recolor_same {x y : Tag} : Same w w col (recolor col x y) (· = x) := ⟨⟨Nat.le_refl _, fun _ _ _ => rfl⟩, fun b o _ hT => ⟨fun _ => ⟨rfl, rfl⟩, by unfold recolor; rw [if_neg hT]⟩⟩

theorem recolor_spare {B : Nat} {x y : Tag} {sz : Nat} {v : Value} (h : Spare w col B x sz v) : Spare w (recolor col x y) B y sz v := by
  rcases h with h | ⟨b, o, n, cap, rfl, h1, h2, h3⟩
  · exact .inl h
  · refine .inr ⟨b, o, n, cap, rfl, h1, h2, fun j hj => ?_⟩
    obtain ⟨p, q⟩ := h3 j hj
    exact ⟨by unfold recolor; rw [if_pos p], q⟩

theorem recolor_old {B : Nat} {x y : Tag} (hx : x ≠ .imm ∧ x ≠ .old) (h : ∀ b o, b < B → col b o = oldCol c0.c b o) : ∀ b o, b < B → recolor col x y b o = oldCol c0.c b o := fun b o hb => by
  unfold recolor
  rw [h b o hb, if_neg]
  rcases oldCol_two c0.c b o with e | e <;> rw [e]
  · exact Ne.symm hx.1
  · exact Ne.symm hx.2

/-- A row goes from slot s to slot d, with the right to grow. -/
theorem Rel.hand (hr : Rel w0 c0 n F a w col blk) {s d : Nat} {q : DV} {e : Ent} {v : Value} (hs : getE F.v s = .val q true) (hd : d < n)
    (he : RepV w (Imm (recolor col (.sp s) (.sp d))) q.t q.x v → Spare w (recolor col (.sp s) (.sp d)) w0.heap.size (.sp d) (elSz q.t) (a.tmps.getD s undef) → EntOk w (recolor col (.sp s) (.sp d)) blk w0.heap.size d e v)
    (hv : RepV w (Imm col) q.t q.x v) :
    Rel w0 c0 n ⟨setE (setE F.v s (.val q false)) d e, F.b⟩ (a.put (some d) v) w (recolor col (.sp s) (.sp d)) blk := by
  have h := hr.ents s
  rw [hs] at h
  refine (hr.drop hs).put (T := (· = .sp s)) hd hr.below recolor_same (by simp) (recolor_old (by simp) hr.old) (fun s' hne hT x hx => ?_) (by simp) (by simp) ?_
  · simp only [Tag.sp.injEq] at hT
    subst hT
    rw [getE_setE, if_pos rfl] at hx
    simp at hx
  · exact he (recolor_same.repV (by simp) hv) (recolor_spare (h.2 rfl))

/-! ### move, assign, pick, nilCheck, extract, makeFunc -/
theorem move_ok {x : Operand} (hop : o.op = .move x ∨ o.op = .assign x) (hr : Rel w0 c0 n F a w col blk) (hd : ∀ d, o.dst = some d → d < n)
    (h : mvK tt tr (getE F.v) o x some = some δ) : Good P w0 c0 n (F.app δ) o a w := by
  have hrun : (execOp a.eval o).run P w = .ok (.value (a.eval x)) w := by
    unfold execOp
    rcases hop with e | e <;> rw [e] <;> rfl
  have hx := opn (tt := tt) hr o.type x
  cases x with
  | tmp s =>
    have hE : ent tt (getE F.v) o.type (.tmp s) = getE F.v s := rfl
    unfold mvK at h
    cases hs : getE F.v s with
    | undef => simp only [hE, hs] at h; cases h
    | ref k off => simp only [hE, hs] at h hx; exact good_put0 hr h hd hrun fun d' => hx
    | peek d => simp only [hE, hs] at h hx; exact good_put0 hr h hd hrun fun d' => hx
    | clo f cs => simp only [hE, hs] at h hx; exact good_put0 hr h hd hrun fun d' => hx
    | tup ds => simp only [hE, hs] at h hx; exact good_put0 hr h hd hrun fun d' => hx
    | full d => simp only [hE, hs] at h hx; exact good_put0 hr h hd hrun fun d' => hx
    | val d own =>
      simp only [hE, hs] at h hx
      cases hot : own && tr with
      | false =>
        rw [hot] at h
        exact good_put0 hr h hd hrun fun d' => ⟨hx.1, fun h => by simp at h⟩
      | true =>
        rw [hot] at h
        obtain ⟨d', hdst, rfl⟩ := put_some h
        have : own = true := by cases own <;> simp_all
        subst this
        refine good_of (col' := recolor col (.sp s) (.sp d')) (blk' := blk) hrun ?_
        rw [hdst]
        exact hr.hand hs (hd d' hdst) (fun h1 h2 => ⟨h1, fun _ => h2⟩) hx.1
  | const c =>
    unfold mvK at h
    have hc := fun d' => const_ok (w := w) (col := col) (blk := blk) (w0 := w0) (tt := tt) o.type c d'
    have hE : ent tt (getE F.v) o.type (.const c) = constE tt o.type c := rfl
    cases hs : constE tt o.type c with
    | undef => simp only [hE, hs] at h; cases h
    | _ => simp only [hE, hs] at h hc; exact good_put0 hr h hd hrun hc
  | func f => exact good_put0 hr h hd hrun fun _ => ⟨[], rfl, .nil⟩
  | global g => cases h


theorem run_v {s : Sem Value} {v : Value} (h : s.run P w = .ok v w') : (do pure (Next.value (← s)) : Sem Next).run P w = .ok (.value v) w' := by
  simp [Sem.run_bind, h]

theorem pick_ok {c x y : Operand} (hop : o.op = .pick c x y) (hr : Rel w0 c0 n F a w col blk) (hd : ∀ d, o.dst = some d → d < n)
    (h : core Γ tt tr (getE F.v) (getB F.b) o some = some δ) : Good P w0 c0 n (F.app δ) o a w := by
  have hc := opn (tt := tt) hr o.type c
  have hx := opn (tt := tt) hr o.type x
  have hy := opn (tt := tt) hr o.type y
  have hrun : ∀ q, a.eval c = .bool q → (execOp a.eval o).run P w = .ok (.value (if q then a.eval x else a.eval y)) w := fun q hq => by
    unfold execOp; rw [hop]; simp [asBool, hq]
  unfold core at h
  simp only [hop] at h
  split at h
  · rename_i q oc x' ox y' oy h1 h2 h3
    rw [h1] at hc; rw [h2] at hx; rw [h3] at hy
    have hq := repV_bool hc.1
    cases q with
    | true => exact good_put0 hr h hd (hrun _ hq) fun _ => ⟨hx.1, fun h => by simp at h⟩
    | false => exact good_put0 hr h hd (hrun _ hq) fun _ => ⟨hy.1, fun h => by simp at h⟩
  · rename_i q oc x' ox h1 h2 h3
    rw [h1] at hc; rw [h2] at hx
    have hq := repV_bool hc.1
    cases q with
    | true => exact good_put0 hr h hd (hrun _ hq) fun _ => ⟨hx.1, fun h => by simp at h⟩
    | false => cases h
  · rename_i q _ _ _ h1 h3 _
    rw [h1] at hc; rw [h3] at hy
    have hq := repV_bool hc.1
    cases q with
    | true => cases h
    | false => exact good_put0 hr h hd (hrun _ hq) fun _ => ⟨hy.1, fun h => by simp at h⟩
  · cases h

theorem nilCheck_ok {x : Operand} (hop : o.op = .nilCheck x) (hr : Rel w0 c0 n F a w col blk) (hd : ∀ d, o.dst = some d → d < n)
    (h : core Γ tt tr (getE F.v) (getB F.b) o some = some δ) : Good P w0 c0 n (F.app δ) o a w := by
  have hx := opn (tt := tt) hr o.type x
  unfold core at h
  simp only [hop] at h
  split at h
  · rename_i k off h1
    rw [h1] at hx
    exact good_put0 hr h hd (v := a.eval x) (by unfold execOp; rw [hop]; simp only [show a.eval x = _ from hx]; rfl) fun _ => hx
  · rename_i d h1
    rw [h1] at hx
    obtain ⟨b, off, cs, hv, hrest⟩ := hx
    exact good_put0 hr h hd (v := a.eval x) (by unfold execOp; rw [hop]; simp only [hv]; rfl) fun _ => ⟨b, off, cs, hv, hrest⟩
  · rename_i f cs h1
    rw [h1] at hx
    obtain ⟨vs, hv, hrest⟩ := hx
    exact good_put0 hr h hd (v := a.eval x) (by unfold execOp; rw [hop]; simp only [hv]; rfl) fun _ => ⟨vs, hv, hrest⟩
  · cases h

theorem extract_ok {x : Operand} {i : Nat} (hop : o.op = .extract x i) (hr : Rel w0 c0 n F a w col blk) (hd : ∀ d, o.dst = some d → d < n)
    (h : core Γ tt tr (getE F.v) (getB F.b) o some = some δ) : Good P w0 c0 n (F.app δ) o a w := by
  have hx := opn (tt := tt) hr 0 x
  unfold core at h
  simp only [hop] at h
  split at h
  · rename_i ds h1
    rw [h1] at hx
    obtain ⟨vs, hv, ha⟩ := hx
    split at h
    · rename_i d h2
      obtain ⟨v, h3, h4⟩ := ha.get h2
      exact good_put0 hr h hd (v := v) (by unfold execOp; rw [hop]; exact run_v (by simp [Instr.extract, hv, h3])) fun _ => ⟨h4, fun h => by simp at h⟩
    · cases h
  · cases h

theorem capOf_ok {e : Ent} {c : Cap} {v : Value} {B s : Nat} (h : capOf e = some c) (he : EntOk w col blk B s e v) : CapOk w col blk c v := by
  cases e <;> simp only [capOf, Option.some.injEq, reduceCtorEq] at h <;> subst h
  · exact he.1
  · exact he
  · exact he

theorem capsOf_ok (hr : Rel w0 c0 n F a w col blk) : ∀ {xs : List Operand} {cs : List Cap}, capsOf (xs.map (ent tt (getE F.v) 0)) = some cs → All2 (CapOk w col blk) cs (xs.map a.eval)
  | [], cs, h => by simp [capsOf] at h; subst h; exact .nil
  | x :: r, cs, h => by
    simp only [List.map_cons, capsOf] at h
    split at h
    · rename_i c cs' h1 h2
      simp only [Option.some.injEq] at h
      subst h
      exact .cons (capOf_ok h1 (opn hr 0 x)) (capsOf_ok hr h2)
    · cases h

theorem makeFunc_ok {f : Nat} {first caps : Array Operand} (hop : o.op = .makeFunc (.func f) first caps) (hr : Rel w0 c0 n F a w col blk) (hd : ∀ d, o.dst = some d → d < n)
    (h : core Γ tt tr (getE F.v) (getB F.b) o some = some δ) : Good P w0 c0 n (F.app δ) o a w := by
  unfold core at h
  simp only [hop] at h
  cases hf : first.isEmpty with
  | false => rw [hf] at h; cases h
  | true =>
    rw [hf] at h
    simp only [cond_true] at h
    split at h
    · rename_i cs h1
      have hf' : first = #[] := by simpa using hf
      refine good_put0 hr h hd (v := .func (.func f) #[] (caps.map a.eval)) (by unfold execOp; rw [hop]; exact run_v (by simp [Instr.makeFunc, hf'])) fun _ => ?_
      refine ⟨caps.toList.map a.eval, ?_, capsOf_ok hr h1⟩
      congr 1
      apply Array.ext'
      simp
    · cases h

/-! ### numbers -/
theorem same_kind {a b : IntKind} (h : IntKind.same a b = true) : a = b := by cases a <;> cases b <;> simp_all [IntKind.same]

theorem intBin_ok {op : BinOp} {k : IntKind} {x y : Int} {r : DV} (hs : isShift op = false) (h : intBinK op k x y some = some r) (t : Nat) (xo yo : Operand) :
    ∃ v, (do eqGuard op t xo yo (.int k x) (.int k y); binOp op t (.int k x) (.int k y) : Sem Value).run P w = .ok v w ∧ RepV w (Imm col) r.t r.x v := by
  rw [eqGuard_at_int]
  simp only [pure_bind]
  cases op <;> simp only [intBinK, Option.some.injEq, reduceCtorEq, isShift, Bool.true_eq_false] at h hs
  case quo =>
    cases hz : y == 0 with
    | true => rw [hz] at h; cases h
    | false =>
      rw [hz] at h
      simp only [cond_false, Option.some.injEq] at h
      subst h
      have : ¬ y = 0 := by simpa using hz
      exact ⟨_, by simp [binOp, Op.intDiv, this], repV_of_int k _⟩
  case rem =>
    cases hz : y == 0 with
    | true => rw [hz] at h; cases h
    | false =>
      rw [hz] at h
      simp only [cond_false, Option.some.injEq] at h
      subst h
      have : ¬ y = 0 := by simpa using hz
      exact ⟨_, by simp [binOp, Op.intDiv, this], repV_of_int k _⟩
  all_goals subst h
  case add => exact ⟨_, by simp [binOp, Op.intArith], repV_of_int k _⟩
  case sub => exact ⟨_, by simp [binOp, Op.intArith], repV_of_int k _⟩
  case mul => exact ⟨_, by simp [binOp, Op.intArith], repV_of_int k _⟩
  case and => exact ⟨_, by simp [binOp, Op.intBits], repV_of_int k _⟩
  case or => exact ⟨_, by simp [binOp, Op.intBits], repV_of_int k _⟩
  case xor => exact ⟨_, by simp [binOp, Op.intBits], repV_of_int k _⟩
  case andNot => exact ⟨_, by simp [binOp, Op.intBits], repV_of_int k _⟩
  case eql => exact ⟨_, by simp [binOp, Op.intCmp], repV_of_bool _⟩
  case neq => exact ⟨_, by simp [binOp, Op.intCmp], repV_of_bool _⟩
  case lss => exact ⟨_, by simp [binOp, Op.intCmp], repV_of_bool _⟩
  case leq => exact ⟨_, by simp [binOp, Op.intCmp], repV_of_bool _⟩
  case gtr => exact ⟨_, by simp [binOp, Op.intCmp], repV_of_bool _⟩
  case geq => exact ⟨_, by simp [binOp, Op.intCmp], repV_of_bool _⟩

theorem shift_ok {op : BinOp} {k k' : IntKind} {x y : Int} {r : DV} (hs : isShift op = true) (h : shiftK op k x y some = some r) (t : Nat) (xo yo : Operand) :
    ∃ v, (do eqGuard op t xo yo (.int k x) (.int k' y); binOp op t (.int k x) (.int k' y) : Sem Value).run P w = .ok v w ∧ RepV w (Imm col) r.t r.x v := by
  rw [eqGuard_at_int]
  simp only [pure_bind]
  unfold shiftK at h
  cases hz : decide (y < 0) with
  | true => rw [hz] at h; cases h
  | false =>
    rw [hz] at h
    have hy : ¬ y < 0 := by simpa using hz
    cases op <;> simp only [isShift, Bool.false_eq_true] at hs <;> simp only [cond_false, Option.some.injEq] at h <;> subst h
    · exact ⟨_, by simp [binOp, Op.shift, hy], repV_of_int k _⟩
    · exact ⟨_, by simp [binOp, Op.shift, hy], repV_of_int k _⟩

theorem as_some {d : DV} {t : Ty} {x : t.den} (h : d.as t = some x) : d = ⟨t, x⟩ := by
  unfold DV.as at h
  split at h
  · rename_i e
    obtain ⟨t', x'⟩ := d
    subst e
    simp only [Option.some.injEq] at h
    subst h; rfl
  · cases h

theorem flatEq_ok (hT : TTok P tt) {op : BinOp} {t : Nat} {p q : DV} {vp vq : Value} {r : DV} (h : flatEqK tt op t p q some = some r) (hk : ∀ k, p.t ≠ .int k) (hs : p.t ≠ .str) (hp : RepV w (Imm col) p.t p.x vp) (hq : RepV w (Imm col) q.t q.x vq) (xo yo : Operand) :
    ∃ v, (do eqGuard op t xo yo vp vq; binOp op t vp vq : Sem Value).run P w = .ok v w ∧ RepV w (Imm col) r.t r.x v := by
  unfold flatEqK at h
  cases hl : tt.look t with
  | none => simp [hl] at h
  | some ti =>
    simp only [hl] at h
    cases hf : ti.eqok && ti.ty.flat with
    | false => rw [hf] at h; cases h
    | true =>
      rw [hf] at h
      simp only [cond_true] at h
      split at h
      · rename_i x y h1 h2
        have e1 := as_some h1
        have e2 := as_some h2
        subst e1; subst e2
        simp only [Bool.and_eq_true] at hf
        have heq := (hT t ti hl).eq hf.1 hf.2 w (Imm col) x y vp vq xo yo
        split at h
        · simp only [Option.some.injEq] at h
          subst h
          exact ⟨_, heq .eql (.inl rfl) hk hs hp hq, repV_of_bool _⟩
        · simp only [Option.some.injEq] at h
          subst h
          exact ⟨_, heq .neq (.inr rfl) hk hs hp hq, repV_of_bool _⟩
        · cases h
      · cases h

theorem bin_ok (hT : TTok P tt) {op : BinOp} {t : Nat} {p q : DV} {vp vq : Value} {r : DV} (h : binK tt op t p q some = some r) (hp : RepV w (Imm col) p.t p.x vp) (hq : RepV w (Imm col) q.t q.x vq) (xo yo : Operand) :
    ∃ v, (do eqGuard op t xo yo vp vq; binOp op t vp vq : Sem Value).run P w = .ok v w ∧ RepV w (Imm col) r.t r.x v := by
  obtain ⟨tp, xp⟩ := p
  obtain ⟨tq, xq⟩ := q
  cases tp with
  | int k =>
    cases tq with
    | int k' =>
      have ep := repV_int hp
      have eq := repV_int hq
      subst ep; subst eq
      simp only [binK] at h
      cases hs : isShift op with
      | true => rw [hs] at h; exact shift_ok hs h t xo yo
      | false =>
        rw [hs] at h
        simp only [cond_false] at h
        cases hk : IntKind.same k k' with
        | false => rw [hk] at h; cases h
        | true => rw [hk] at h; have := same_kind hk; subst this; exact intBin_ok hs h t xo yo
    | _ => simp only [binK] at h; cases h
  | str =>
    cases tq with
    | str =>
      have ep := repV_str hp
      have eq := repV_str hq
      subst ep; subst eq
      simp only [binK] at h
      rw [eqGuard_at_string]
      split at h
      · simp only [Option.some.injEq] at h
        subst h
        exact ⟨_, by simp [binOp, Op.stringOp], repV_of_bool _⟩
      · simp only [Option.some.injEq] at h
        subst h
        exact ⟨_, by simp [binOp, Op.stringOp], repV_of_bool _⟩
      · cases h
    | int _ => simp only [binK] at h; cases h
    | bool =>
      simp only [binK] at h
      unfold flatEqK at h
      split at h
      · rename_i ti _
        cases hf : ti.eqok && ti.ty.flat with
        | false => rw [hf] at h; cases h
        | true =>
          rw [hf] at h
          simp only [cond_true] at h
          split at h
          · rename_i x y h1 h2
            have e1 := as_some h1; have e2 := as_some h2
            simp only [DV.mk.injEq] at e1 e2
            exact absurd (e1.1.trans e2.1.symm) (by simp)
          · cases h
      · cases h
    | sl _ | unit | pair _ _ =>
      simp only [binK] at h
      unfold flatEqK at h
      split at h
      · rename_i ti _
        cases hf : ti.eqok && ti.ty.flat with
        | false => rw [hf] at h; cases h
        | true =>
          rw [hf] at h
          simp only [cond_true] at h
          split at h
          · rename_i x y h1 h2
            have e1 := as_some h1; have e2 := as_some h2
            simp only [DV.mk.injEq] at e1 e2
            exact absurd (e1.1.trans e2.1.symm) (by simp)
          · cases h
      · cases h
  | bool => cases tq <;> first | (simp only [binK] at h; cases h; done) | exact flatEq_ok hT h (by simp) (by simp) hp hq xo yo
  | sl e => cases tq <;> first | (simp only [binK] at h; cases h; done) | exact flatEq_ok hT h (by simp) (by simp) hp hq xo yo
  | unit => cases tq <;> first | (simp only [binK] at h; cases h; done) | exact flatEq_ok hT h (by simp) (by simp) hp hq xo yo
  | pair _ _ => cases tq <;> first | (simp only [binK] at h; cases h; done) | exact flatEq_ok hT h (by simp) (by simp) hp hq xo yo

theorem flatEqK_bind {R : Type} (op : BinOp) (ty : Nat) (p q : DV) (κ : DV → Option R) : flatEqK tt op ty p q κ = (flatEqK tt op ty p q some).bind κ := by
  unfold flatEqK
  split
  · rename_i ti _
    cases ti.eqok && ti.ty.flat
    · rfl
    · simp only [cond_true]
      split
      · split <;> rfl
      · rfl
  · rfl

theorem intBinK_bind {R : Type} (op : BinOp) (k : IntKind) (x y : Int) (κ : DV → Option R) : intBinK op k x y κ = (intBinK op k x y some).bind κ := by
  cases op <;> simp only [intBinK, Option.bind_some, Option.bind_none]
  all_goals (cases y == 0 <;> rfl)

theorem shiftK_bind {R : Type} (op : BinOp) (k : IntKind) (x y : Int) (κ : DV → Option R) : shiftK op k x y κ = (shiftK op k x y some).bind κ := by
  unfold shiftK
  cases decide (y < 0)
  · cases op <;> rfl
  · rfl

theorem binK_bind {R : Type} (op : BinOp) (ty : Nat) (p q : DV) (κ : DV → Option R) : binK tt op ty p q κ = (binK tt op ty p q some).bind κ := by
  obtain ⟨tp, xp⟩ := p
  obtain ⟨tq, xq⟩ := q
  cases tp <;> cases tq <;> simp only [binK, Option.bind_none] <;> try exact flatEqK_bind _ _ _ _ _
  · rename_i k k'
    cases isShift op
    · simp only [cond_false]
      cases IntKind.same k k'
      · rfl
      · exact intBinK_bind _ _ _ _ _
    · exact shiftK_bind _ _ _ _ _
  · split <;> rfl


theorem binOp_ok (hT : TTok P tt) {op : BinOp} {t u : Nat} {x y : Operand} (hop : o.op = .binOp op t x y u) (hr : Rel w0 c0 n F a w col blk) (hd : ∀ d, o.dst = some d → d < n)
    (h : core Γ tt tr (getE F.v) (getB F.b) o some = some δ) : Good P w0 c0 n (F.app δ) o a w := by
  have hx := opn (tt := tt) hr t x
  have hy := opn (tt := tt) hr u y
  unfold core at h
  simp only [hop] at h
  split at h
  · rename_i p _ q _ h1 h2
    rw [h1] at hx; rw [h2] at hy
    rw [binK_bind] at h
    cases hb : binK tt op t p q some with
    | none => simp [hb] at h
    | some r =>
      simp only [hb, Option.bind_some] at h
      obtain ⟨v, hv, hrep⟩ := bin_ok (P := P) (w := w) hT hb hx.1 hy.1 x y
      exact good_put0 hr h hd (v := v) (by unfold execOp; rw [hop]; exact run_v hv) fun _ => ⟨hrep, fun h => by simp at h⟩
  · cases h

theorem unOp_ok {op : UnOp} {t : Nat} {x : Operand} (hop : o.op = .unOp op t x) (hr : Rel w0 c0 n F a w col blk) (hd : ∀ d, o.dst = some d → d < n)
    (h : core Γ tt tr (getE F.v) (getB F.b) o some = some δ) : Good P w0 c0 n (F.app δ) o a w := by
  have hx := opn (tt := tt) hr t x
  unfold core at h
  simp only [hop] at h
  split at h
  · rename_i p _ h1
    rw [h1] at hx
    obtain ⟨tp, xp⟩ := p
    have hx := hx.1
    cases tp <;> cases op <;> simp only [unK, reduceCtorEq] at h
    · have ep := repV_int hx
      exact good_put0 hr h hd (by unfold execOp; rw [hop]; exact run_v (by simp [Op.unary, Op.intArith, ep])) fun _ => ⟨repV_of_int _ _, fun h => by simp at h⟩
    · have ep := repV_bool hx
      exact good_put0 hr h hd (by unfold execOp; rw [hop]; exact run_v (by simp [Op.unary, ep])) fun _ => ⟨repV_of_bool _, fun h => by simp at h⟩
  · cases h

theorem TIok.under {t : Nat} {ti : TI} (h : TIok P tt t ti) : ∃ d, P.underlying t = some d := by
  have := h.desc
  cases ht : ti.ty <;> rw [ht] at this <;> simp only at this
  · exact ⟨_, this⟩
  · exact ⟨_, this⟩
  · exact ⟨_, this⟩
  · exact ⟨_, this.1⟩
  · rcases this with ⟨_, _, h, _⟩ | ⟨_, _, h, _⟩ <;> exact ⟨_, h⟩
  · rcases this with ⟨_, _, h, _⟩ | ⟨_, _, h, _⟩ <;> exact ⟨_, h⟩

theorem convert_ok (hT : TTok P tt) {src dst : Nat} {x : Operand} (hop : o.op = .convert src dst x) (hr : Rel w0 c0 n F a w col blk) (hd : ∀ d, o.dst = some d → d < n)
    (h : core Γ tt tr (getE F.v) (getB F.b) o some = some δ) : Good P w0 c0 n (F.app δ) o a w := by
  have hx := opn (tt := tt) hr src x
  unfold core at h
  simp only [hop] at h
  split at h
  · rename_i k z own ti ts h1 h2 h3
    rw [h1] at hx
    have ep := repV_int hx.1
    split at h
    · rename_i k' hk
      have hu : P.underlying dst = some (.int k') := by have := (hT dst ti h2).desc; rw [hk] at this; exact this
      obtain ⟨ds, hs⟩ := (hT src ts h3).under
      have hrun : (convert src dst (.int k z)).run P w = .ok (.int k' (k'.wrap z)) w := by
        unfold convert
        simp only [run_underlying hu, run_underlying hs, Sem.run_bind, Result.andThen_ok]
        cases ds <;> simp [Conv.intToInt]
      exact good_put0 hr h hd (v := .int k' (k'.wrap z)) (by unfold execOp; rw [hop]; exact run_v (by rw [ep]; exact hrun)) fun _ => ⟨repV_of_int k' _, fun h => by simp at h⟩
    · cases h
  · cases h

end
end Go.Ev
