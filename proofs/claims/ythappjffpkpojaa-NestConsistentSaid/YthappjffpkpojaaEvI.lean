/-
  THE EVALUATOR, PART I: slice literals, len, min, max, calls by contract; all operations together ('core_ok').
-/
import Derived.Test.YthappjffpkpojaaEvH
import Derived.Great.BuildSlice
import Derived.Laws.Small
namespace Go.Ev
open Go Go.RowKit
set_option linter.unusedVariables false
set_option linter.unusedSimpArgs false

section
variable {P : Program} {tt : TT} {Γ : List Con} {w0 w w' : World} {c0 : En} {n : Nat} {F : Fr} {a : Act} {col : Col} {blk : Nat → Nat} {o : Oper} {δ : Delta} {tr : Bool}

theorem RepL.set {α : Type} {rep : α → List Value → Prop} {k : Nat} (hk : ∀ x cs, rep x cs → cs.length = k) {y : α} {ys : List Value} (hy : rep y ys) {xs : List α} {es : List Value} (h : RepL rep xs es) {i : Nat} (hi : i < xs.length) :
    ∃ A C D, es = A ++ C ++ D ∧ A.length = i * k ∧ C.length = k ∧ RepL rep (xs.set i y) (A ++ ys ++ D) := by
  have e : xs = xs.take i ++ (xs[i] :: xs.drop (i + 1)) := by simp
  have e2 : xs.set i y = xs.take i ++ (y :: xs.drop (i + 1)) := by
    rw [List.set_eq_take_append_cons_drop, if_pos hi]
  rw [e] at h
  obtain ⟨A, r, h1, ⟨C, D, h2, h3, rfl⟩, rfl⟩ := RepL.split h
  refine ⟨A, C, D, by simp, ?_, hk _ _ h2, ?_⟩
  · rw [RepL.length hk h1, List.length_take]; congr 1; omega
  · rw [e2, List.append_assoc]
    exact RepL.append h1 ⟨ys, D, hy, h3, rfl⟩

theorem fill_elems (hr : Rel w0 c0 n F a w col blk) {e : Ty} (ety : Nat) :
    ∀ (parts : List (Nat × Operand)) (xs zs : List e.den) (cells : Array Value), mkElems e xs (parts.map fun p => (p.1, scal (ent tt (getE F.v) ety p.2))) = some zs → RepL (RepC w (Imm col) e) xs cells.toList →
      ∃ cells', Instr.fill (fun i => some (i * e.size, e.size)) cells (parts.map fun p => (p.1, a.eval p.2)) = some cells' ∧ RepL (RepC w (Imm col) e) zs cells'.toList ∧ zs.length = xs.length
  | [], xs, zs, cells, h, hc => by
    simp only [List.map_nil, mkElems, Option.some.injEq] at h
    subst h
    exact ⟨cells, rfl, hc, rfl⟩
  | (i, p) :: r, xs, zs, cells, h, hc => by
    simp only [List.map_cons] at h ⊢
    cases hs : scal (ent tt (getE F.v) ety p) with
    | none => rw [hs] at h; simp [mkElems] at h
    | some d =>
      rw [hs] at h
      simp only [mkElems] at h
      split at h
      · rename_i y hy
        have := as_some hy
        subst this
        cases hi : Nat.blt i xs.length with
        | false => rw [hi] at h; cases h
        | true =>
          rw [hi] at h
          simp only [cond_true] at h
          rw [Nat.blt_eq] at hi
          obtain ⟨own, he⟩ := scal_some hs
          have hp := opn (tt := tt) hr ety p
          rw [he] at hp
          have hyc := repV_cells hp.1
          have hysz := repV_size hp.1
          simp only at hysz
          obtain ⟨A, C, D, hcells, hA, hCl, hz1⟩ := RepL.set (k := e.size) (fun _ _ h => h.length) hyc hc hi
          have hst := fill_step A C D (a.eval p).cells (by rw [hCl, hysz]) cells hcells
          have hsize : cells.size = A.length + C.length + D.length := by
            have := congrArg List.length hcells
            simp at this
            omega
          obtain ⟨cells', h1, h2, h3⟩ := fill_elems hr ety r (xs.set i y) zs _ h (by rw [hst]; exact hz1)
          refine ⟨cells', ?_, h2, by rw [h3]; simp⟩
          simp only [Instr.fill]
          rw [if_neg (by simp only [hysz, ne_eq, not_true_eq_false, false_or, Bool.or_eq_true, decide_eq_true_eq]; omega)]
          rw [← hA]
          exact h1
      · cases h

theorem buildSlice_ok (hT : TTok P tt) {t len : Nat} {parts : Array (Nat × Operand)} (hop : o.op = .buildSlice t len parts) (hr : Rel w0 c0 n F a w col blk) (hd : ∀ d, o.dst = some d → d < n)
    (h : core Γ tt tr (getE F.v) (getB F.b) o some = some δ) : Good P w0 c0 n (F.app δ) o a w := by
  unfold core at h
  simp only [hop] at h
  split at h
  · rename_i ti hl
    split at h
    · rename_i e hty
      cases hb : Nat.ble len 4096 && Nat.ble e.size 4096 with
      | false => rw [hb] at h; cases h
      | true =>
        rw [hb] at h
        simp only [Bool.and_eq_true, Nat.ble_eq] at hb
        simp only [cond_true] at h
        split at h
        · rename_i xs hx
          unfold partsD at hx
          obtain ⟨d, hdst, rfl⟩ := put_some h
          have hti := hT t ti hl
          have hdesc := hti.desc
          rw [hty] at hdesc
          obtain ⟨hu, te, hte, hee⟩ := hdesc
          obtain ⟨i, z, hi, hsz, hby, hz, hzc⟩ := (hT ti.elem te hte).info
          rw [hee] at hsz hzc
          have hzl : (zeroC e).length = e.size := (RepC.zero (w := w) (I := fun _ _ => True) e).length
          have hparts : (parts.map fun (i, x) => (i, a.eval x)).toList = parts.toList.map fun p => (p.1, a.eval p.2) := by simp
          have hmade : ((Array.range (len * i.size)).map (z.cells[· % z.cells.size]!)).toList = (List.replicate len (zeroC e)).flatten := by
            rw [hzc, hsz, ← hzl]; exact made_list _ _
          have hmul : len * e.size ≤ 4096 * 4096 := Nat.mul_le_mul hb.1 hb.2
          by_cases h0 : len * i.size = 0
          · -- nothing to store
            have hempty : (List.replicate len (zeroC e)).flatten = [] := List.eq_nil_of_length_eq_zero (by
              simp only [List.length_flatten, List.map_replicate, List.sum_replicate_nat, hzl]; rw [← hsz]; exact h0)
            obtain ⟨cells, h1, h2, h3⟩ := fill_elems (tt := tt) (a := a) hr ti.elem parts.toList _ xs #[] hx (by
              have := RepL.replicate (RepC.zero (w := w) (I := Imm col) e) len
              rw [hempty] at this
              exact this)
            have hrun : (Instr.buildSlice t len (parts.map fun (i, x) => (i, a.eval x))).run P w = .ok (.slice (some ⟨w.heap.size, 0, none⟩) len len) (w.alloc (.cells (cells.toList ++ []).toArray ti.elem)) := by
              have h1' : Instr.fill (fun x => some (x * i.size, i.size)) #[] (parts.map fun (i, x) => (i, a.eval x)).toList = some cells := by rw [hparts, hsz]; exact h1
              have hle : ¬ len * i.size > 2 ^ 24 := by rw [h0]; decide
              have h1'' : Instr.fill (fun x => some (x * i.size, i.size)) #[] (parts.map fun (i, x) => (i, a.eval x)).toList = some cells := h1'
              simp only [Array.toList_map] at h1''
              simp [Instr.buildSlice, run_underlying hu, sizeOf, typeInfo, hi, h0, Array.range_zero', h1'', newRow]
            have hn : xs.length = len := by rw [h3]; simp
            refine good_of (col' := newCol w col fun o => if o < cells.toList.length then .imm else .sp d) (blk' := blk) (by unfold execOp; rw [hop]; exact run_v hrun) ?_
            rw [hdst]
            have hln := RepL.length (fun _ _ h => h.length) h2
            have := hr.newRow (hd d hdst) (rest := []) (cap := len) (.inl rfl) ti.elem h2 (by omega) (by rw [List.append_nil, hln, hn])
            rw [hn] at this
            exact this
          · obtain ⟨cells, h1, h2, h3⟩ := fill_elems (tt := tt) (a := a) hr ti.elem parts.toList _ xs ((Array.range (len * i.size)).map (z.cells[· % z.cells.size]!)) hx (by
              rw [hmade]; exact RepL.replicate (RepC.zero e) len)
            have hrun := run_buildSlice (P := P) w t ti.elem len (parts.map fun (i, x) => (i, a.eval x)) cells i z hu hi hz (by rw [hsz]; omega) h0 (by rw [hparts, hsz]; rw [hsz] at h1; exact h1)
            have hcl : cells = (cells.toList ++ []).toArray := by simp
            rw [hcl] at hrun
            have hn : xs.length = len := by rw [h3]; simp
            refine good_of (col' := newCol w col fun o => if o < cells.toList.length then .imm else .sp d) (blk' := blk) (by unfold execOp; rw [hop]; exact run_v hrun) ?_
            rw [hdst]
            have hln := RepL.length (fun _ _ h => h.length) h2
            have := hr.newRow (hd d hdst) (rest := []) (cap := len) (.inl rfl) ti.elem h2 (by omega) (by rw [List.append_nil, hln, hn])
            rw [hn] at this
            exact this
        · cases h
    · cases h
  · cases h


/-! ### len, min, max -/
theorem run_builtin {b : Builtin} {args : Array Operand} {ts : Array Nat} {c : Call} (hop : o.op = .call c) (hc : c = ⟨.builtin b, args, ts⟩) {v : Value}
    (hb : ∀ consts, (builtin b ts o.type consts (args.map a.eval)).run P w = .ok (.value v) w') : (execOp a.eval o).run P w = .ok (.value v) w' := by
  subst hc
  unfold execOp
  rw [hop]
  simp only [resolve, Sem.run_bind, Sem.run_pure, Result.andThen_ok, invoke]
  exact hb _

theorem best_ok {mx : Bool} {p q r : DV} {vp vq : Value} (h : bestK mx p q some = some r) (hp : RepV w (Imm col) p.t p.x vp) (hq : RepV w (Imm col) q.t q.x vq) (ts : Array Nat) (t : Nat) :
    ∃ v, (if mx then Builtin.max_ ts t #[vp, vq] else Builtin.min_ ts t #[vp, vq]).run P w = .ok v w ∧ RepV w (Imm col) r.t r.x v := by
  obtain ⟨tp, xp⟩ := p
  obtain ⟨tq, xq⟩ := q
  cases tp <;> cases tq <;> simp only [bestK, reduceCtorEq] at h
  rename_i i j
  cases hij : IntKind.same i j with
  | false => rw [hij] at h; cases h
  | true =>
    rw [hij] at h
    have := same_kind hij
    subst this
    have ep := repV_int hp
    have eq := repV_int hq
    subst ep; subst eq
    simp only [cond_true, Option.some.injEq] at h
    subst h
    have hcond : ∀ (c : Prop) [Decidable c] (x y : Int), (bif decide c then x else y) = if c then x else y := fun c _ x y => by by_cases hc : c <;> simp [hc]
    cases mx with
    | true => exact ⟨_, by simp only [if_true]; exact run_max_int2 .., by simp only [cond_true, hcond]; exact repV_of_int _ _⟩
    | false => exact ⟨_, by simp only [Bool.false_eq_true, if_false]; exact run_min_int2 .., by simp only [cond_false, hcond]; exact repV_of_int _ _⟩

theorem bestK_bind {R : Type} (mx : Bool) (p q : DV) (κ : DV → Option R) : bestK mx p q κ = (bestK mx p q some).bind κ := by
  obtain ⟨tp, xp⟩ := p
  obtain ⟨tq, xq⟩ := q
  cases tp <;> cases tq <;> simp only [bestK, Option.bind_none]
  rename_i i j
  cases IntKind.same i j <;> rfl

/-! ### calls -/
def ArgOk (w : World) (col : Col) (A : Arg) (v : Value) : Prop := match A with
  | .val d => RepV w (Imm col) d.t d.x v
  | .peek d => Peek w col d v
  | .clo f cs => ∃ vs : List Value, v = .func (.func f) #[] vs.toArray ∧ All2 (fun (c : Bool × DV) v => if c.1 then Peek w col c.2 v else RepV w (Imm col) c.2.t c.2.x v) cs vs

theorem imm_old {b o' : Nat} (h : Imm col b o') : Imm (oldCol col) b o' := by
  show (if col b o' = .imm then _ else _) = _
  rw [if_pos (show col b o' = .imm from h)]

theorem repV_old {t : Ty} {x : t.den} {v : Value} (h : RepV w (Imm col) t x v) : RepV w (Imm (oldCol col)) t x v := h.mono fun b o' hi _ => ⟨rfl, imm_old hi⟩

theorem peek_old {d : DV} {v : Value} (h : Peek w col d v) : Peek w (oldCol col) d v := by
  obtain ⟨b, o', cs, hv, hrep, hrg, hcol⟩ := h
  exact ⟨b, o', cs, hv, hrep.mono fun b o' hi _ => ⟨rfl, imm_old hi⟩, hrg, fun j _ => oldCol_two _ _ _⟩

theorem box_peek (hr : Rel w0 c0 n F a w col blk) {k : Nat} {bx : Box} (h : getB F.b k = some bx) : Peek w (oldCol col) ⟨bx.t, bx.x⟩ (.pointer (some ⟨blk k, 0, none⟩)) := by
  obtain ⟨_, cs, hrg, hrep, _⟩ := hr.boxes k bx h
  exact ⟨blk k, 0, cs, rfl, hrep.mono fun b o' hi _ => ⟨rfl, imm_old hi⟩, hrg, fun j _ => oldCol_two _ _ _⟩

theorem rcap_ok (hr : Rel w0 c0 n F a w col blk) {c : Cap} {q : Bool × DV} {v : Value} (h : rcap (getB F.b) c = some q) (hc : CapOk w col blk c v) :
    if q.1 then Peek w (oldCol col) q.2 v else RepV w (Imm (oldCol col)) q.2.t q.2.x v := by
  cases c with
  | val d => simp only [rcap, Option.some.injEq] at h; subst h; simpa using repV_old hc
  | peek d => simp only [rcap, Option.some.injEq] at h; subst h; simpa using peek_old hc
  | ref k off =>
    simp only [rcap] at h
    split at h
    · rename_i bx hb
      simp only [Option.some.injEq] at h
      subst h
      rw [show v = _ from hc]
      simpa using box_peek hr hb
    · cases h

theorem rcaps_ok (hr : Rel w0 c0 n F a w col blk) : ∀ {cs : List Cap} {qs : List (Bool × DV)} {vs : List Value}, rcaps (getB F.b) cs = some qs → All2 (CapOk w col blk) cs vs →
    All2 (fun (c : Bool × DV) v => if c.1 then Peek w (oldCol col) c.2 v else RepV w (Imm (oldCol col)) c.2.t c.2.x v) qs vs
  | [], qs, vs, h, ha => by
    simp only [rcaps, Option.some.injEq] at h
    subst h
    cases ha
    exact .nil
  | c :: r, qs, vs, h, ha => by
    simp only [rcaps] at h
    split at h
    · rename_i q qs' h1 h2
      simp only [Option.some.injEq] at h
      subst h
      cases ha with
      | cons p q => exact .cons (rcap_ok hr h1 p) (rcaps_ok hr h2 q)
    · cases h

theorem argOf_ok (hr : Rel w0 c0 n F a w col blk) {e : Ent} {A : Arg} {v : Value} {B s : Nat} (h : argOf (getB F.b) e = some A) (he : EntOk w col blk B s e v) : ArgOk w (oldCol col) A v := by
  cases e with
  | val d own => simp only [argOf, Option.some.injEq] at h; subst h; exact repV_old he.1
  | peek d => simp only [argOf, Option.some.injEq] at h; subst h; exact peek_old he
  | ref k off =>
    simp only [argOf] at h
    split at h
    · rename_i bx hb
      simp only [Option.some.injEq] at h
      subst h
      rw [show v = _ from he]
      exact box_peek hr hb
    · cases h
  | clo f cs =>
    simp only [argOf] at h
    cases hc : rcaps (getB F.b) cs with
    | none => rw [hc] at h; cases h
    | some qs =>
      rw [hc] at h
      simp only [Option.bind_some, Option.some.injEq] at h
      subst h
      obtain ⟨vs, hv, ha⟩ := he
      exact ⟨vs, hv, rcaps_ok hr hc ha⟩
  | undef => simp [argOf] at h
  | tup ds => simp [argOf] at h
  | full d => simp [argOf] at h

theorem argsOf_ok (hr : Rel w0 c0 n F a w col blk) : ∀ {xs : List (Nat × Operand)} {as : List Arg}, argsOf (getB F.b) (xs.map fun p => ent tt (getE F.v) p.1 p.2) = some as → All2 (ArgOk w (oldCol col)) as (xs.map fun p => a.eval p.2)
  | [], as, h => by simp only [List.map_nil, argsOf, Option.some.injEq] at h; subst h; exact .nil
  | x :: r, as, h => by
    simp only [List.map_cons, argsOf] at h
    split at h
    · rename_i q qs h1 h2
      simp only [Option.some.injEq] at h
      subst h
      exact .cons (argOf_ok hr h1 (opn hr x.1 x.2)) (argsOf_ok hr h2)
    · cases h

theorem decCaps_ok : ∀ {cs : List (Bool × Ty)} {ds : List (Bool × DV)} {x : CapsDen cs} {vs : List Value}, decCaps cs ds = some x →
    All2 (fun (c : Bool × DV) v => if c.1 then Peek w col c.2 v else RepV w (Imm col) c.2.t c.2.x v) ds vs → CapsRep w col cs x vs
  | [], ds, x, vs, h, ha => by
    cases ds with
    | nil => cases ha; rfl
    | cons _ _ => simp [decCaps] at h
  | (b, t) :: r, ds, x, vs, h, ha => by
    cases ds with
    | nil => simp [decCaps] at h
    | cons d ds' =>
      obtain ⟨b', d⟩ := d
      simp only [decCaps] at h
      cases hb : b == b' with
      | false => rw [hb] at h; cases h
      | true =>
        rw [hb] at h
        have : b = b' := by simpa using hb
        subst this
        simp only [cond_true] at h
        split at h
        · rename_i y ys h1 h2
          have := as_some h1
          subst this
          simp only [Option.some.injEq] at h
          subst h
          cases ha with
          | cons p q => exact ⟨_, _, rfl, p, decCaps_ok h2 q⟩
        · cases h

theorem decArg_ok {A : ATy} {g : Arg} {x : A.den} {v : Value} (h : decArg A g = some x) (ha : ArgOk w col g v) : ArgRep w col A x v := by
  cases A with
  | v t =>
    cases g with
    | val d => simp only [decArg] at h; have := as_some h; subst this; exact ha
    | _ => simp [decArg] at h
  | pk t =>
    cases g with
    | peek d => simp only [decArg] at h; have := as_some h; subst this; exact ha
    | _ => simp [decArg] at h
  | cl f cs =>
    cases g with
    | clo f' ds =>
      simp only [decArg] at h
      cases hf : Nat.beq f f' with
      | false => rw [hf] at h; cases h
      | true =>
        rw [hf] at h
        have := Nat.eq_of_beq_eq_true hf
        subst this
        obtain ⟨vs, hv, h2⟩ := ha
        exact ⟨vs, hv, decCaps_ok h h2⟩
    | _ => simp [decArg] at h

theorem decA_ok : ∀ {As : List ATy} {gs : List Arg} {x : DenA As} {vs : List Value}, decA As gs = some x → All2 (ArgOk w col) gs vs → ArgsRep w col As x vs
  | [], gs, x, vs, h, ha => by
    cases gs with
    | nil => cases ha; rfl
    | cons _ _ => simp [decA] at h
  | A :: r, gs, x, vs, h, ha => by
    cases gs with
    | nil => simp [decA] at h
    | cons g gs' =>
      simp only [decA] at h
      split at h
      · rename_i p q h1 h2
        simp only [Option.some.injEq] at h
        subst h
        cases ha with
        | cons p q => exact ⟨_, _, rfl, decArg_ok h1 p, decA_ok h2 q⟩
      · cases h

theorem callCon_some {g : Nat} {as : List Arg} : ∀ {l : List Con}, callCon o some g as l = some δ → ∃ c ∈ l, c.f = g ∧ c.mu = none ∧ ∃ x r, decA c.args as = some x ∧ c.fn x = some r ∧ put o some (resE c.res c.own r) [] = some δ
  | [], h => by simp [callCon] at h
  | c :: r, h => by
    simp only [callCon] at h
    cases hf : Nat.beq c.f g && c.mu.isNone with
    | false =>
      rw [hf] at h
      obtain ⟨c', h1, h2⟩ := callCon_some (l := r) h
      exact ⟨c', List.mem_cons_of_mem _ h1, h2⟩
    | true =>
      rw [hf] at h
      simp only [cond_true] at h
      split at h
      · rename_i x hx
        cases hc : c.fn x with
        | none => rw [hc] at h; cases h
        | some y =>
          rw [hc] at h
          rw [Bool.and_eq_true] at hf
          exact ⟨c, by simp, Nat.eq_of_beq_eq_true hf.1, Option.isNone_iff_eq_none.1 hf.2, x, y, hx, hc, h⟩
      · obtain ⟨c', h1, h2⟩ := callCon_some (l := r) h
        exact ⟨c', List.mem_cons_of_mem _ h1, h2⟩

theorem capArgs_ok : ∀ {cs : List (Bool × DV)} {vs : List Value}, All2 (fun (c : Bool × DV) v => if c.1 then Peek w col c.2 v else RepV w (Imm col) c.2.t c.2.x v) cs vs → All2 (ArgOk w col) (cs.map capArg) vs
  | _, _, .nil => .nil
  | (b, d) :: _, _, .cons p q => by
    refine .cons ?_ (capArgs_ok q)
    cases b <;> simpa [capArg, ArgOk] using p

theorem zipTys_map : ∀ (xs : List Operand) (ts : List Nat), (zipTys xs ts).map (·.2) = xs
  | [], ts => by cases ts <;> rfl
  | x :: r, [] => by simp [zipTys, zipTys_map r []]
  | x :: r, t :: ts => by simp [zipTys, zipTys_map r ts]

/-- After a call: the caller's colors, and the callee's for what is new. -/
def afterCol (w : World) (col col' : Col) (d : Nat) : Col := fun b o => if b < w.heap.size then col b o else match col' b o with
  | .imm => .imm
  | .sp 0 => .sp d
  | _ => .dead

theorem resE_ok (hr : Rel w0 c0 n F a w col blk) {ts : List Ty} {own : Bool} {r : DenR ts} {v : Value} {col' : Col} (d : Nat) (hB : Below w.heap.size w w') (ho : ∀ b o, b < w.heap.size → col' b o = oldCol col b o)
    (h : ResRep w' col' w.heap.size ts own r v) : EntOk w' (afterCol w col col' d) blk w0.heap.size d (resE ts own r) v := by
  have him : ∀ b o', Imm col' b o' → Imm (afterCol w col col' d) b o' := fun b o' hi => by
    unfold Imm afterCol
    unfold Imm at hi
    by_cases hb : b < w.heap.size
    · rw [if_pos hb]
      rw [ho b o' hb] at hi
      unfold oldCol at hi
      split at hi
      · assumption
      · simp at hi
    · rw [if_neg hb, hi]
  have hrep : ∀ {t : Ty} {x : t.den} {v : Value}, RepV w' (Imm col') t x v → RepV w' (Imm (afterCol w col col' d)) t x v := fun h => h.mono fun b o' hi _ => ⟨rfl, him b o' hi⟩
  cases ts with
  | nil =>
    obtain ⟨vs, hv, ha⟩ := h
    exact ⟨vs, hv, ha.imp fun _ _ h => hrep h⟩
  | cons t ts' =>
    cases ts' with
    | nil =>
      obtain ⟨h1, h2⟩ := h
      refine ⟨hrep h1, fun hown => ?_⟩
      rcases h2 hown with h3 | ⟨b, o', k, cap, hv, hb, hk, h3⟩
      · exact .inl h3
      · obtain ⟨hb, hb'⟩ := hb
        refine .inr ⟨b, o', k, cap, hv, ⟨Nat.le_trans hr.below.size hb, hb'⟩, hk, fun j hj => ?_⟩
        obtain ⟨p, q⟩ := h3 j hj
        refine ⟨?_, q⟩
        unfold afterCol
        rw [if_neg (by omega), p]
        rfl
    | cons u r' =>
      obtain ⟨vs, hv, ha⟩ := h
      exact ⟨vs, hv, ha.imp fun _ _ h => hrep h⟩

theorem call_ok (hT : TTok P tt) (hΓ : ∀ c ∈ Γ, SoundAt P w0 c) {c : Call} (hop : o.op = .call c) (hr : Rel w0 c0 n F a w col blk) (hd : ∀ d, o.dst = some d → d < n)
    (h : core Γ tt tr (getE F.v) (getB F.b) o some = some δ) : Good P w0 c0 n (F.app δ) o a w := by
  obtain ⟨callee, args, argTypes⟩ := c
  unfold core at h
  simp only [hop] at h
  unfold callK at h
  cases callee with
  | invoke _ _ => simp at h
  | builtin b =>
    simp only at h
    split at h
    · rename_i x t hxs hts
      have ha : args = #[x] := Array.ext' hxs
      have ht : argTypes = #[t] := Array.ext' hts
      subst ha; subst ht
      split at h
      · rename_i e xs own ti h1 hl
        cases hty : decide (ti.ty = .sl e) with
        | false => rw [hty] at h; cases h
        | true =>
          rw [hty] at h
          have hx := opn (tt := tt) hr t x
          rw [h1] at hx
          have hdesc := (hT t ti hl).desc
          rw [of_decide_eq_true hty] at hdesc
          obtain ⟨p, len, cap, hv, hlen, _⟩ := repV_cut (e := e) (xs := xs) hx.1
          refine good_put0 hr h hd (v := .int .i64 (List.length xs)) (run_builtin hop rfl fun consts => ?_) fun _ => ⟨repV_of_int _ _, fun h => by simp at h⟩
          simp [builtin, Builtin.len_, hv, run_underlying hdesc.1, goInt, hlen]
      · cases h
    · rename_i s x t u hxs hts
      have ha : args = #[s, x] := Array.ext' hxs
      have ht : argTypes = #[t, u] := Array.ext' hts
      subst ha; subst ht
      exact append_ok hT hop rfl hr hd h
    · rename_i x y t u hxs hts
      have ha : args = #[x, y] := Array.ext' hxs
      have ht : argTypes = #[t, u] := Array.ext' hts
      subst ha; subst ht
      split at h
      · rename_i p _ q _ h1 h2
        have hx := opn (tt := tt) hr t x
        have hy := opn (tt := tt) hr u y
        rw [h1] at hx; rw [h2] at hy
        rw [bestK_bind] at h
        cases hb : bestK true p q some with
        | none => rw [hb] at h; cases h
        | some r =>
          rw [hb] at h
          obtain ⟨v, h3, h4⟩ := best_ok (P := P) (w := w) hb hx.1 hy.1 #[t, u] o.type
          simp only [if_true] at h3
          exact good_put0 hr h hd (run_builtin hop rfl fun consts => by simp [builtin, h3]) fun _ => ⟨h4, fun h => by simp at h⟩
      · cases h
    · rename_i x y t u hxs hts
      have ha : args = #[x, y] := Array.ext' hxs
      have ht : argTypes = #[t, u] := Array.ext' hts
      subst ha; subst ht
      split at h
      · rename_i p _ q _ h1 h2
        have hx := opn (tt := tt) hr t x
        have hy := opn (tt := tt) hr u y
        rw [h1] at hx; rw [h2] at hy
        rw [bestK_bind] at h
        cases hb : bestK false p q some with
        | none => rw [hb] at h; cases h
        | some r =>
          rw [hb] at h
          obtain ⟨v, h3, h4⟩ := best_ok (P := P) (w := w) hb hx.1 hy.1 #[t, u] o.type
          simp only [Bool.false_eq_true, if_false] at h3
          exact good_put0 hr h hd (run_builtin hop rfl fun consts => by simp [builtin, h3]) fun _ => ⟨h4, fun h => by simp at h⟩
      · cases h
    · cases h
  | value f =>
    simp only at h
    split at h
    · rename_i g caps hf
      split at h
      · rename_i cs as hcs has
        have hfe := opn (tt := tt) hr 0 f
        rw [hf] at hfe
        obtain ⟨vs, hfv, hcap⟩ := hfe
        have h1 := argsOf_ok hr has
        have hmap : (zipTys args.toList argTypes.toList).map (fun p => a.eval p.2) = args.toList.map a.eval := by
          conv => rhs; rw [← zipTys_map args.toList argTypes.toList]
          rw [List.map_map]; rfl
        rw [hmap] at h1
        have h2 := h1.append (capArgs_ok (rcaps_ok hr hcs hcap))
        obtain ⟨c, hc, rfl, hmu, x, r, hx, hfn, hput⟩ := callCon_some h
        have hsound := hΓ c hc
        obtain ⟨fn, hfun, hbody, hname⟩ := hsound.fn
        have hcalls := hsound.calls hmu w col _ x r hr.below hfn (decA_ok hx h2)
        obtain ⟨d, hdst, rfl⟩ := put_some hput
        have hrun : (execOp a.eval o).run P w = .ok (.enter c.f (args.toList.map a.eval ++ vs).toArray) w := by
          have hargs : args.map a.eval ++ vs.toArray = (args.toList.map a.eval ++ vs).toArray := by
            apply Array.ext'; simp
          unfold execOp
          rw [hop]
          have hb : ¬ fn.body = none := by intro hh; rw [hh] at hbody; cases hbody
          have hn' : ¬ fn.name = "runtime.NumGoroutine" := by simpa using hname
          simp [resolve, Deferred.ofValue, hfv, invoke, callFunc, hfun, hn', hb, ← hargs]
        intro K Q hK
        unfold Oper.wp
        rw [hrun]
        show Calls P c.f _ w _
        refine hcalls.mono fun e w' hpost => ?_
        obtain ⟨v, col', rfl, hbel, hold, hres⟩ := hpost
        show K (a.put o.dst v) w'
        rw [hdst]
        have hS : Same w w' col (afterCol w col col' d) (fun _ => False) := ⟨⟨hbel.size, fun b o' hlt => hbel.frozen (p := ⟨b, o', none⟩) hlt⟩, fun b o' hlt _ =>
          ⟨fun _ => ⟨hbel.cell (p := ⟨b, o', none⟩) hlt, hbel.frozen (p := ⟨b, o', none⟩) hlt⟩, by unfold afterCol; rw [if_pos hlt]⟩⟩
        refine hK _ w' (afterCol w col col' d) blk (hr.put (hd d hdst) (hr.below.trans (hbel.mono hr.below.size)) hS ⟨fun h => h, fun h => h⟩ (fun b o' hb => ?_) (fun _ _ h => h.elim) (fun _ h => h) (fun _ _ _ h => h.elim) (resE_ok hr d hbel hold hres))
        unfold afterCol
        rw [if_pos (Nat.lt_of_lt_of_le hb hr.below.size)]
        exact hr.old b o' hb
      · cases h
    · cases h

/-- ONE OPERATION. -/
theorem core_ok (hT : TTok P tt) (hΓ : ∀ c ∈ Γ, SoundAt P w0 c) (hr : Rel w0 c0 n F a w col blk) (hd : ∀ d, o.dst = some d → d < n)
    (h : core Γ tt tr (getE F.v) (getB F.b) o some = some δ) : Good P w0 c0 n (F.app δ) o a w := by
  cases hop : o.op with
  | move x => unfold core at h; simp only [hop] at h; exact move_ok (.inl hop) hr hd h
  | assign x => unfold core at h; simp only [hop] at h; exact move_ok (.inr hop) hr hd h
  | pick c x y => exact pick_ok hop hr hd h
  | alloc t => exact alloc_ok hT hop hr hd h
  | box t x => exact box_ok hT hop hr hd h
  | build t ps => exact build_ok hT hop hr hd h
  | buildSlice t l ps => exact buildSlice_ok hT hop hr hd h
  | load t x => exact load_ok hT hop hr hd h
  | store t x y => exact store_ok hT hop hr h
  | nilCheck x => exact nilCheck_ok hop hr hd h
  | binOp op t x y u => exact binOp_ok hT hop hr hd h
  | unOp op t x => exact unOp_ok hop hr hd h
  | convert s d x => exact convert_ok hT hop hr hd h
  | makeFunc f first caps =>
    cases f with
    | func f => exact makeFunc_ok hop hr hd h
    | _ => unfold core at h; simp [hop] at h
  | makeSlice t l c => exact makeSlice_ok hT hop hr hd h
  | slice t x lo hi mx => exact slice_ok hT hop hr hd h
  | fieldAddr t x f => exact fieldAddr_ok hT hop hr hd h
  | field t x f => exact field_ok hT hop hr hd h
  | indexAddr t x ix => exact indexAddr_ok hT hop hr hd h
  | extract x i => exact extract_ok hop hr hd h
  | call c => exact call_ok hT hΓ hop hr hd h
  | _ => unfold core at h; simp [hop] at h

end
end Go.Ev
