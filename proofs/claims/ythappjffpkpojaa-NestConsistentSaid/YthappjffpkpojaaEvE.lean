/-
  THE EVALUATOR, PART E: the operations that make, read and write memory.
-/
import Derived.Test.YthappjffpkpojaaEvD
import Derived.Great.FillDense
namespace Go.Ev
open Go Go.RowKit
set_option linter.unusedVariables false
set_option linter.unusedSimpArgs false

section
variable {P : Program} {tt : TT} {Γ : List Con} {w0 w w' : World} {c0 : En} {n : Nat} {F : Fr} {a : Act} {col : Col} {blk : Nat → Nat} {o : Oper} {δ : Delta} {tr : Bool}

/-! ### A new block -/
def newCol (w : World) (col : Col) (g : Nat → Tag) : Col := fun b o => if b = w.heap.size then g o else col b o

theorem alloc_same (ob : Obj) (g : Nat → Tag) {T : Tag → Prop} : Same w (w.alloc ob) col (newCol w col g) T := ⟨⟨((Below.refl 0 w).alloc (Nat.zero_le _) ob).size, fun b o hlt => World.frozen?_alloc_old w ob _ (by simp; omega)⟩, fun b o hlt _ =>
  ⟨fun _ => ⟨World.cell?_alloc_old w ob _ (by simp; omega), World.frozen?_alloc_old w ob _ (by simp; omega)⟩, by unfold newCol; rw [if_neg (by omega)]⟩⟩

theorem drew_same {T : Tag → Prop} : Same w w.drew col col T := ⟨⟨Nat.le_refl _, fun _ _ _ => rfl⟩, fun b o _ _ => ⟨fun _ => ⟨rfl, rfl⟩, rfl⟩⟩

theorem Same.trans {w1 w2 w3 : World} {c1 c2 c3 : Col} {T : Tag → Prop} (h : Same w1 w2 c1 c2 T) (k : Same w2 w3 c2 c3 T) : Same w1 w3 c1 c3 T := ⟨⟨Nat.le_trans h.1.1 k.1.1, fun b o hb => (k.1.2 b o (Nat.lt_of_lt_of_le hb h.1.1)).trans (h.1.2 b o hb)⟩, fun b o hb hT => by
  obtain ⟨p, r⟩ := h.2 b o hb hT
  obtain ⟨p', r'⟩ := k.2 b o (Nat.lt_of_lt_of_le hb h.1.1) (by rw [r]; exact hT)
  exact ⟨fun hs => ⟨(p' (by rw [(p hs).1]; exact hs)).1.trans (p hs).1, (p' (by rw [(p hs).1]; exact hs)).2.trans (p hs).2⟩, r'.trans r⟩⟩

theorem new_old {B : Nat} {g : Nat → Tag} (hB : B ≤ w.heap.size) (h : ∀ b o, b < B → col b o = oldCol c0.c b o) : ∀ b o, b < B → newCol w col g b o = oldCol c0.c b o := fun b o hb => by
  unfold newCol; rw [if_neg (by omega)]; exact h b o hb

theorem range_new (cs : List Value) (ty : TypeId) : (w.alloc (.cells cs.toArray ty)).rangeAt w.heap.size 0 cs := fun j v hv => by
  rw [Nat.zero_add, World.cell?_alloc_new]; simpa using hv

theorem frozen_new (cs : Array Value) (ty : TypeId) (j : Nat) : (w.alloc (.cells cs ty)).frozen? ⟨w.heap.size, j, none⟩ = false := by
  simp [World.frozen?_alloc_new]

/-! ### alloc, box -/
theorem purge_refs {e : Ent} {d k : Nat} (h : (e.purge d).refs k) : k ≠ d ∧ e.refs k := by
  cases e with
  | ref k' off =>
    simp only [Ent.purge] at h
    cases hb : Nat.beq k' d with
    | true => rw [hb] at h; exact h.elim
    | false =>
      rw [hb] at h
      simp only [cond_false, Ent.refs] at h
      subst h
      exact ⟨fun e => by subst e; simp at hb, rfl⟩
  | clo f cs =>
    simp only [Ent.purge] at h
    cases hb : cs.any (Cap.mentions d) with
    | true => rw [hb] at h; exact h.elim
    | false =>
      rw [hb] at h
      simp only [cond_false, Ent.refs] at h
      obtain ⟨off, ho⟩ := h
      refine ⟨fun e => ?_, off, ho⟩
      subst e
      rw [List.any_eq_false] at hb
      exact hb _ ho (by simp [Cap.mentions])
  | undef => exact h.elim
  | val _ _ => exact h.elim
  | peek _ => exact h.elim
  | tup _ => exact h.elim
  | full _ => exact h.elim

theorem purge_ok {e : Ent} {d B s : Nat} {v : Value} (h : EntOk w col blk B s e v) : EntOk w col blk B s (e.purge d) v := by
  cases e with
  | ref k' off => simp only [Ent.purge]; cases Nat.beq k' d <;> first | exact h | trivial
  | clo f cs => simp only [Ent.purge]; cases cs.any (Cap.mentions d) <;> first | exact h | trivial
  | undef => exact h
  | val _ _ => exact h
  | peek _ => exact h
  | tup _ => exact h
  | full _ => exact h

theorem purge_val {e : Ent} {d : Nat} {x : DV} {own : Bool} (h : e.purge d = .val x own) : e = .val x own := by
  cases e with
  | ref k' off => simp only [Ent.purge] at h; cases hb : Nat.beq k' d <;> rw [hb] at h <;> simp at h
  | clo f cs => simp only [Ent.purge] at h; cases hb : cs.any (Cap.mentions d) <;> rw [hb] at h <;> simp at h
  | undef => exact h
  | val _ _ => exact h
  | peek _ => exact h
  | tup _ => exact h
  | full _ => exact h

/-- A variable of the call's own, in a new block. -/
theorem Rel.newBox (hr : Rel w0 c0 n F a w col blk) {d : Nat} (hd : d < n) {t : Ty} {x : t.den} {cs : List Value} {own : List Nat} (ty : TypeId) (hx : RepC w (Imm col) t x cs)
    (hown : ∀ off ∈ own, ∃ e, cs[off]? = some (.slice none 0 0) ∧ leafAt t off = some (.sl e)) :
    Rel w0 c0 n (F.app { purge := some d, us := [(d, .ref d 0)], bs := [(d, ⟨t, x, own⟩)] }) (a.put (some d) (.pointer (some ⟨w.heap.size, 0, none⟩))) (w.alloc (.cells cs.toArray ty))
      (newCol w col fun _ => .box d) (fun k => if k = d then w.heap.size else blk k) := by
  have hS : Same w (w.alloc (.cells cs.toArray ty)) col (newCol w col fun _ => .box d) (fun _ => False) := alloc_same _ _
  have hB := hr.below.size
  refine ⟨hr.below.alloc hB _, new_old hB hr.old, hr.fix.go hS ⟨fun h => h, fun h => h⟩, fun k hk => (if_neg (by omega)).trans (hr.pin k hk), fun s => ?_, fun k bx hk => ?_, hr.defers, ?_⟩
  · show EntOk _ _ _ _ _ (getE (setE (purgeE d F.v) d (.ref d 0)) s) ((a.tmps.setIfInBounds d _).getD s undef)
    rw [getE_setE, getD_set _ _ _ _ (by rw [hr.size]; exact hd), getE_purgeE]
    split
    · simp [EntOk]
    · refine hS.ent ⟨fun h => h, fun h => h⟩ (fun _ _ h => h) (fun k hk => ?_) (purge_ok (hr.ents s))
      rw [if_neg (purge_refs hk).1]
  · have hk' : (if k = d then some (⟨t, x, own⟩ : Box) else getB F.b k) = some bx := by rw [← getB_setB]; exact hk
    split at hk'
    · rename_i e
      subst e
      simp only [Option.some.injEq] at hk'
      subst hk'
      refine ⟨by simpa using hB, cs, by simpa using range_new cs ty, hS.repC ⟨fun h => h, fun h => h⟩ hx, fun j hj => ⟨by simp [newCol], ?_⟩, fun off ho => ?_⟩
      · simp only [if_pos]; exact frozen_new _ _ _
      · obtain ⟨e, h1, h2⟩ := hown off ho
        exact ⟨_, e, h1, h2, .inl rfl⟩
    · rename_i hne
      exact hS.box ⟨fun h => h, fun h => h⟩ (fun h => h) (fun _ _ h => h) (by simp [hne]) (hr.boxes k bx hk')
  · show (a.tmps.setIfInBounds d _).size = n
    rw [Array.size_setIfInBounds]; exact hr.size

theorem alloc_ok (hT : TTok P tt) {t : Nat} (hop : o.op = .alloc t) (hr : Rel w0 c0 n F a w col blk) (hd : ∀ d, o.dst = some d → d < n)
    (h : core Γ tt tr (getE F.v) (getB F.b) o some = some δ) : Good P w0 c0 n (F.app δ) o a w := by
  unfold core at h
  simp only [hop] at h
  split at h
  · rename_i ti d h1 h2
    simp only [Option.some.injEq] at h
    subst h
    obtain ⟨i, z, hi, _, _, hz, hzc⟩ := (hT t ti h1).info
    refine good_of (col' := newCol w col fun _ => .box d) (blk' := fun k => if k = d then w.heap.size else blk k) (v := .pointer (some ⟨w.heap.size, 0, none⟩)) (w' := w.alloc (.cells (zeroC ti.ty).toArray t))
      (by unfold execOp; rw [hop]; exact run_v (by simp [Instr.alloc, zeroValue, typeInfo, hi, hz, newVar, newRow, hzc])) ?_
    rw [h2]
    refine hr.newBox (hd d h2) t (RepC.zero ti.ty) fun off ho => ?_
    obtain ⟨_, e, h3, h4⟩ := slOffs_leaf ho
    exact ⟨e, by simpa using h4, by simpa using h3⟩
  · cases h

theorem box_ok (hT : TTok P tt) {t : Nat} {x : Operand} (hop : o.op = .box t x) (hr : Rel w0 c0 n F a w col blk) (hd : ∀ d, o.dst = some d → d < n)
    (h : core Γ tt tr (getE F.v) (getB F.b) o some = some δ) : Good P w0 c0 n (F.app δ) o a w := by
  have hx := opn (tt := tt) hr t x
  unfold core at h
  simp only [hop] at h
  split at h
  · rename_i ti d q own h1 h2 h3
    rw [h3] at hx
    cases hq : decide (q.t = ti.ty) with
    | false => rw [hq] at h; cases h
    | true =>
      rw [hq] at h
      simp only [cond_true, Option.some.injEq] at h
      subst h
      have hc := repV_cells hx.1
      refine good_of (col' := newCol w col fun _ => .box d) (blk' := fun k => if k = d then w.heap.size else blk k) (v := .pointer (some ⟨w.heap.size, 0, none⟩)) (w' := w.alloc (.cells (a.eval x).cells.toList.toArray t))
        (by unfold execOp; rw [hop]; exact run_v (by simp [Instr.box, newVar, newRow])) ?_
      rw [h2]
      exact hr.newBox (hd d h2) t hc (by simp)
  · cases h

/-! ### load, store -/
theorem TIok.agg_under {t : Nat} {ti : TI} (h : TIok P tt t ti) : ∃ d, P.underlying t = some d ∧ (match d with | .struct _ | .array _ _ => true | _ => false) = ti.ty.agg := by
  have := h.desc
  cases ht : ti.ty <;> rw [ht] at this <;> simp only at this
  · exact ⟨_, this, rfl⟩
  · exact ⟨_, this, rfl⟩
  · exact ⟨_, this, rfl⟩
  · exact ⟨_, this.1, rfl⟩
  · rcases this with ⟨_, _, h, _⟩ | ⟨_, _, h, _⟩ <;> exact ⟨_, h, rfl⟩
  · rcases this with ⟨_, _, h, _⟩ | ⟨_, _, h, _⟩ <;> exact ⟨_, h, rfl⟩

theorem run_isAgg {t : Nat} {ti : TI} (h : TIok P tt t ti) : (isAgg t).run P w = .ok ti.ty.agg w := by
  obtain ⟨d, h1, h2⟩ := h.agg_under
  unfold isAgg
  rw [Sem.run_bind, run_underlying h1 w, Result.andThen_ok, ← h2]
  cases d <;> rfl

theorem run_sizeOf {t : Nat} {ti : TI} (h : TIok P tt t ti) : (sizeOf t).run P w = .ok ti.ty.size w := by
  obtain ⟨i, z, hi, hs, _⟩ := h.info
  simp [sizeOf, typeInfo, hi, hs]

theorem range_add {b off : Nat} {cs : List Value} (h : w.rangeAt b off cs) : ∀ (j : Nat) v, cs[j]? = some v → w.cell? ((⟨b, off, none⟩ : Addr).add j) = some v := fun j v hv => by
  rw [Addr.add_mid]; exact h j v hv

theorem run_loadVar {t : Nat} {ti : TI} (h : TIok P tt t ti) {I : Nat → Nat → Prop} {y : ti.ty.den} {b off : Nat} {cs : List Value} (hc : RepC w I ti.ty y cs) (hr : w.rangeAt b off cs) :
    (loadVar t ⟨b, off, none⟩).run P w = .ok (valueOf ti.ty cs) w := by
  have hl := hc.length
  unfold loadVar
  rw [Sem.run_bind, run_isAgg h, Result.andThen_ok]
  unfold valueOf
  cases ha : ti.ty.agg with
  | true =>
    simp only [if_true]
    rw [Sem.run_bind, run_sizeOf h, Result.andThen_ok, Sem.run_bind, ← hl, run_loadCells_list (P := P) w _ cs (range_add hr)]
    rfl
  | false =>
    simp only [Bool.false_eq_true, if_false]
    have : ti.ty.size = 1 := by cases ht : ti.ty <;> simp_all [Ty.agg, Ty.size]
    rw [this] at hl
    obtain ⟨c, rfl⟩ := List.length_eq_one_iff.1 hl
    have := hr 0 c (by simp)
    simp only [Nat.add_zero] at this
    simp [load, Sem.run, this]

theorem run_storeVar {t : Nat} {ti : TI} (h : TIok P tt t ti) {I : Nat → Nat → Prop} {y : ti.ty.den} {b off : Nat} {v : Value} (hv : RepV w I ti.ty y v)
    (hc : ∀ j, j < ti.ty.size → (w.cell? ⟨b, off + j, none⟩).isSome = true ∧ w.frozen? ⟨b, off + j, none⟩ = false) :
    (storeVar t ⟨b, off, none⟩ v).run P w = .ok () (w.setCells b off v.cells.toList) := by
  have hl : v.cells.size = ti.ty.size := repV_size hv
  have hone := (repV_cells hv).one
  unfold storeVar
  rw [Sem.run_bind, run_sizeOf h, Result.andThen_ok]
  simp only [hl, ne_eq, not_true_eq_false, if_false]
  have := run_storeCells_cells (P := P) b off v.cells.toList 0 w (fun j hj => by simpa using (hc j (by simpa [hl] using hj)).1) (fun j hj => by simpa using (hc j (by simpa [hl] using hj)).2) hone
  simpa using this

theorem load_ok (hT : TTok P tt) {t : Nat} {x : Operand} (hop : o.op = .load t x) (hr : Rel w0 c0 n F a w col blk) (hd : ∀ d, o.dst = some d → d < n)
    (h : core Γ tt tr (getE F.v) (getB F.b) o some = some δ) : Good P w0 c0 n (F.app δ) o a w := by
  have hx := opn (tt := tt) hr 0 x
  unfold core at h
  simp only [hop] at h
  unfold loadK at h
  have hrun : ∀ {b off v}, a.eval x = .pointer (some ⟨b, off, none⟩) → (loadVar t ⟨b, off, none⟩).run P w = .ok v w → (execOp a.eval o).run P w = .ok (.value v) w := fun {b off v} h1 h2 => by
    unfold execOp; rw [hop]; exact run_v (by simp [Instr.loadAt, Instr.sureAddr, h1, h2])
  split at h
  · rename_i ti kk off h1 h2
    rw [h2] at hx
    have hti := hT t ti h1
    split at h
    · rename_i bx hb
      obtain ⟨hB, cs, hrg, hrep, hcol, hown⟩ := hr.boxes kk bx hb
      split at h
      · rename_i y hp
        obtain ⟨p, c, q, rfl, hpl, hy⟩ := RepC.proj ti.ty hp hrep
        have hrc : w.rangeAt (blk kk) off c := by have := rangeAt_mid hrg; simpa [hpl] using this
        have hld := run_loadVar (P := P) hti hy hrc
        cases hot : tr && ti.ty.isSl && bx.own.contains off with
        | false =>
          rw [hot] at h
          exact good_put0 hr h hd (hrun hx hld) fun _ => ⟨repV_of hy, fun h => by simp at h⟩
        | true =>
          rw [hot] at h
          simp only [cond_true] at h
          split at h
          · rename_i d hdst
            simp only [Option.some.injEq] at h
            subst h
            simp only [Bool.and_eq_true] at hot
            have hmem : off ∈ bx.own := by simpa using hot.2
            obtain ⟨v, e, hv1, hv2, hv3⟩ := hown off hmem
            obtain ⟨e', he'⟩ : ∃ e', ti.ty = .sl e' := by cases hh : ti.ty <;> simp_all [Ty.isSl]
            obtain ⟨ty, elem, bytes, flds, len, eqok⟩ := ti
            simp only at he'
            subst he'
            have hle := leafAt_proj e' hp
            rw [hv2] at hle
            simp only [Option.some.injEq, Ty.sl.injEq] at hle
            subst hle
            have hlen := hy.length
            obtain ⟨c0, rfl⟩ := List.length_eq_one_iff.1 hlen
            have hc0 : c0 = v := by
              rw [List.append_assoc, List.getElem?_append_right (by omega), hpl] at hv1
              simpa using hv1
            subst hc0
            refine good_of (col' := recolor col (.spb kk off) (.sp d)) (blk' := blk) (hrun hx hld) ?_
            rw [hdst]
            have hS : Same w w col (recolor col (.spb kk off) (.sp d)) (· = .spb kk off) := recolor_same
            refine ⟨hr.below, recolor_old (by simp) hr.old, hr.fix.go hS (by simp), hr.pin, fun s => ?_, fun k bx' hk => ?_, hr.defers, ?_⟩
            · show EntOk _ _ _ _ _ (getE (setE F.v d _) s) ((a.tmps.setIfInBounds d _).getD s undef)
              rw [getE_setE, getD_set _ _ _ _ (by rw [hr.size]; exact hd d hdst)]
              split
              · rename_i es; subst es
                exact ⟨hS.repV (by simp) (repV_of hy), fun _ => by
                  have : valueOf (.sl e) [c0] = c0 := rfl
                  rw [this]; exact recolor_spare hv3⟩
              · exact hS.ent (by simp) (fun _ _ h => by simp at h) (fun _ _ => rfl) (hr.ents s)
            · have hk' : (if k = kk then some ({ bx with own := bx.own.filter (fun q => !Nat.beq q off) } : Box) else getB F.b k) = some bx' := by rw [← getB_setB]; exact hk
              split at hk'
              · rename_i e; subst e
                simp only [Option.some.injEq] at hk'
                subst hk'
                have hbx : BoxOk w col blk w0.heap.size k ⟨bx.t, bx.x, bx.own.filter (fun q => !Nat.beq q off)⟩ :=
                  ⟨hB, _, hrg, hrep, hcol, fun q hq => hown q (List.mem_filter.1 (show q ∈ bx.own.filter (fun q => !Nat.beq q off) from hq)).1⟩
                refine hS.box (by simp) (by simp) (fun q hq hT => ?_) rfl hbx
                simp only [Tag.spb.injEq] at hT
                simp [hT.2] at hq
              · rename_i hne
                exact hS.box (by simp) (by simp) (fun q hq hT => by simp only [Tag.spb.injEq] at hT; exact hne hT.1) rfl (hr.boxes k bx' hk')
            · show (a.tmps.setIfInBounds d _).size = n
              rw [Array.size_setIfInBounds]; exact hr.size
          · cases h
      · cases h
    · cases h
  · rename_i ti d h1 h2
    rw [h2] at hx
    obtain ⟨b, off, cs, hv, hrep, hrg, hi⟩ := hx
    split at h
    · rename_i y hp
      obtain ⟨p, c, q, rfl, hpl, hy⟩ := RepC.proj ti.ty hp hrep
      have : p = [] := List.eq_nil_of_length_eq_zero hpl
      subst this
      have hrc : w.rangeAt b off c := by have := rangeAt_mid hrg; simpa using this
      exact good_put0 hr h hd (hrun hv (run_loadVar (P := P) (hT t ti h1) hy hrc)) fun _ => ⟨repV_of hy, fun h => by simp at h⟩
    · cases h
  · cases h

theorem below_setCells {B : Nat} {b : Nat} (hb : B ≤ b) : ∀ (vs : List Value) (off : Nat) {x y : World}, Below B x y → Below B x (y.setCells b off vs)
  | [], _, _, _, h => h
  | v :: r, off, _, _, h => below_setCells hb r (off + 1) (h.setCell (p := ⟨b, off, none⟩) hb v)

theorem good_skip {F' : Fr} {col' : Col} {blk' : Nat → Nat} (hrun : (execOp a.eval o).run P w = .ok .skip w') (hdst : o.dst = none) (hr : Rel w0 c0 n F' a w' col' blk') : Good P w0 c0 n F' o a w := by
  intro K Q hK
  unfold Oper.wp
  rw [hrun]
  show K (a.put o.dst undef) w'
  rw [hdst]
  exact hK _ _ _ _ hr

theorem setCells_same {b off : Nat} {vs : List Value} {T : Tag → Prop} (h : ∀ j, j < vs.length → T (col b (off + j))) : Same w (w.setCells b off vs) col col T := ⟨⟨(below_setCells (Nat.zero_le _) vs off (Below.refl 0 w)).size, fun b' o' _ => by rw [World.frozen?_setCells]⟩, fun b' o' hs hT => by
  refine ⟨fun _ => ⟨World.cell?_setCells_out b vs off w _ (fun hb _ => ?_), by rw [World.frozen?_setCells]⟩, rfl⟩
  simp only at hb
  subst hb
  by_cases h1 : o' < off
  · exact .inl h1
  · by_cases h2 : off + vs.length ≤ o'
    · exact .inr h2
    · have := h (o' - off) (by omega)
      rw [show off + (o' - off) = o' by omega] at this
      exact absurd this hT⟩

theorem range_append {b off : Nat} {cs ds : List Value} (h : w.rangeAt b off cs) (k : w.rangeAt b (off + cs.length) ds) : w.rangeAt b off (cs ++ ds) := fun j v hv => by
  by_cases hj : j < cs.length
  · rw [List.getElem?_append_left hj] at hv; exact h j v hv
  · rw [List.getElem?_append_right (by omega)] at hv
    have := k _ v hv
    rwa [show off + cs.length + (j - cs.length) = off + j by omega] at this

/-- A store into a box, where the right of what is stored (if it has one) has been taken from its slot. -/
theorem Rel.stored (hr : Rel w0 c0 n F a w col blk) {kk off : Nat} {bx : Box} (hb : getB F.b kk = some bx) {d : DV} {v : Value} {z : bx.t.den} (hv : RepV w (Imm col) d.t d.x v) (hz : upd d.t d.x bx.t bx.x off = some z)
    {own' : List Nat} (hown' : ∀ q ∈ own', (q ∈ bx.own ∧ (q < off ∨ off + d.t.size ≤ q)) ∨ (q = off ∧ ∃ e, d.t = .sl e ∧ Spare w col w0.heap.size (.spb kk off) e.size v))
    (hleaf : ∀ e, d.t = .sl e → leafAt bx.t off = some (.sl e)) :
    Rel w0 c0 n ⟨F.v, setB F.b kk ⟨bx.t, z, own'⟩⟩ a (w.setCells (blk kk) off v.cells.toList) col blk := by
  obtain ⟨hB, cs, hrg, hrep, hcol, hown⟩ := hr.boxes kk bx hb
  have hvc := repV_cells hv
  obtain ⟨p, c, q, rfl, hpl, hcl, hz'⟩ := RepC.upd d.t d.x hvc hz hrep
  have hlen := hvc.length
  have hwr : ∀ j, j < v.cells.toList.length → col (blk kk) (off + j) = .box kk := fun j hj => (hcol (off + j) (by simp only [List.length_append, hpl, hcl]; omega)).1
  have hS : Same w (w.setCells (blk kk) off v.cells.toList) col col (· = .box kk) := setCells_same hwr
  have hin : ∀ j, j < v.cells.toList.length → (w.cell? ⟨blk kk, off + j, none⟩).isSome = true := fun j hj => by
    have := range_some hrg (j := off + j) (by simp only [List.length_append, hpl, hcl]; omega)
    simpa using this
  refine ⟨below_setCells hB _ _ hr.below, hr.old, hr.fix.go hS (by simp), hr.pin, fun s => hS.ent (by simp) (fun _ _ h => by simp at h) (fun _ _ => rfl) (hr.ents s), fun k bx' hk => ?_, hr.defers, hr.size⟩
  have hk' : (if k = kk then some (⟨bx.t, z, own'⟩ : Box) else getB F.b k) = some bx' := by rw [← getB_setB]; exact hk
  split at hk'
  · rename_i e
    subst e
    simp only [Option.some.injEq] at hk'
    subst hk'
    have hnew : (w.setCells (blk k) off v.cells.toList).rangeAt (blk k) (0 + p.length) v.cells.toList := fun j u hu => by
      have hj : j < v.cells.toList.length := (List.getElem?_eq_some_iff.1 hu).1
      rw [Nat.zero_add, hpl, World.cell?_setCells_in (blk k) v.cells.toList off w hin j hj]
      exact (List.getElem?_eq_some_iff.1 hu).2 ▸ rfl
    have hout : ∀ j, (j < off ∨ off + v.cells.toList.length ≤ j) → (w.setCells (blk k) off v.cells.toList).cell? ⟨blk k, j, none⟩ = w.cell? ⟨blk k, j, none⟩ := fun j hj =>
      World.cell?_setCells_out _ _ _ _ _ (fun _ _ => hj)
    have h1 : (w.setCells (blk k) off v.cells.toList).rangeAt (blk k) 0 p := fun j u hu => by
      have hj : j < p.length := (List.getElem?_eq_some_iff.1 hu).1
      rw [hout _ (.inl (by omega))]
      exact hrg j u (by rw [List.append_assoc, List.getElem?_append_left hj]; exact hu)
    have h3 : (w.setCells (blk k) off v.cells.toList).rangeAt (blk k) (0 + (p ++ v.cells.toList).length) q := fun j u hu => by
      rw [hout _ (.inr (by simp only [List.length_append, hpl]; omega))]
      have := hrg (p.length + c.length + j) u (by rw [List.getElem?_append_right (by simp), List.length_append]; simpa using hu)
      rw [← this]
      congr 2
      simp only [List.length_append, hcl]; omega
    refine ⟨hB, _, range_append (range_append h1 hnew) h3, hS.repC (by simp) hz', fun j hj => ?_, fun r hr' => ?_⟩
    · have hj' : j < (p ++ c ++ q).length := by simp only [List.length_append, hcl] at hj ⊢; omega
      rw [World.frozen?_setCells]
      exact hcol j hj'
    · rcases hown' r hr' with ⟨hm, hd'⟩ | ⟨rfl, e, he, hsp⟩
      · obtain ⟨u, e, hu, hl, hsp⟩ := hown r hm
        refine ⟨u, e, ?_, hl, hS.spare (by simp) hsp⟩
        rcases hd' with hd' | hd'
        · rw [List.append_assoc, List.getElem?_append_left (by omega)] at hu ⊢; exact hu
        · rw [List.getElem?_append_right (by simp only [List.length_append, hpl, hcl]; omega)] at hu
          rw [List.getElem?_append_right (by simp only [List.length_append, hpl]; omega)]
          rw [← hu]; congr 1; simp only [List.length_append, hcl]
      · refine ⟨v, e, ?_, hleaf e he, hS.spare (by simp) hsp⟩
        have : v.cells = #[v] := repV_single (by rw [he]; rfl) hv
        rw [this, List.append_assoc, List.getElem?_append_right (by omega), hpl]
        simp
  · exact hS.box (by simp) (by simp only [Tag.box.injEq]; assumption) (fun _ _ h => by simp at h) rfl (hr.boxes k bx' hk')

theorem leafAt_upd (e : Ty) {y : (Ty.sl e).den} : ∀ {t : Ty} {x z : t.den} {off : Nat}, upd (.sl e) y t x off = some z → leafAt t off = some (.sl e)
  | .pair p q, x, z, off, h => by
    unfold upd at h
    split at h
    · rename_i hc; exact absurd hc.2 (by simp)
    · unfold leafAt
      cases hb : Nat.blt off p.size with
      | true =>
        rw [hb] at h
        simp only [cond_true] at h ⊢
        cases hu : upd (.sl e) y p x.1 off with
        | none => simp [hu] at h
        | some z1 => exact leafAt_upd e (t := p) hu
      | false =>
        rw [hb] at h
        simp only [cond_false] at h ⊢
        cases hu : upd (.sl e) y q x.2 (off - p.size) with
        | none => simp [hu] at h
        | some z1 => exact leafAt_upd e (t := q) hu
  | .int _, x, z, off, h | .bool, x, z, off, h | .str, x, z, off, h | .unit, x, z, off, h => by
    unfold upd at h
    split at h
    · rename_i hc; exact absurd hc.2 (by simp)
    · cases h
  | .sl _, x, z, off, h => by
    unfold upd at h
    split at h
    · rename_i hc; obtain ⟨rfl, hc⟩ := hc; simp [leafAt, hc]
    · cases h

theorem store_ok (hT : TTok P tt) {t : Nat} {p x : Operand} (hop : o.op = .store t p x) (hr : Rel w0 c0 n F a w col blk)
    (h : core Γ tt tr (getE F.v) (getB F.b) o some = some δ) : Good P w0 c0 n (F.app δ) o a w := by
  have hp := opn (tt := tt) hr 0 p
  have hx := opn (tt := tt) hr t x
  unfold core at h
  simp only [hop] at h
  unfold storeK at h
  split at h
  · rename_i ti kk off d own h1 h2 h3 h4
    rw [h2] at hp
    rw [h3] at hx
    have hti := hT t ti h1
    split at h
    · rename_i bx hb
      cases hq : decide (d.t = ti.ty) with
      | false => rw [hq] at h; cases h
      | true =>
        rw [hq] at h
        have hdt : d.t = ti.ty := by simpa using hq
        simp only [cond_true] at h
        split at h
        · rename_i z hz
          simp only [Option.some.injEq] at h
          subst h
          obtain ⟨hB, cs, hrg, hrep, hcol, hown⟩ := hr.boxes kk bx hb
          obtain ⟨p', c, q', rfl, hpl, hcl, hz'⟩ := RepC.upd d.t d.x (repV_cells hx.1) hz hrep
          have hlen := (repV_cells hx.1).length
          obtain ⟨dt, dx⟩ := d
          simp only at hdt
          subst hdt
          have hst := run_storeVar (P := P) hti (b := blk kk) (off := off) hx.1 (fun j hj => by
            have hj' : off + j < (p' ++ c ++ q').length := by simp only [List.length_append, hpl, hcl]; simp only at hlen; omega
            exact ⟨by have := range_some hrg hj'; simpa using this, (hcol _ hj').2⟩)
          have hrun : (execOp a.eval o).run P w = .ok .skip (w.setCells (blk kk) off (a.eval x).cells.toList) := by
            unfold execOp; rw [hop]
            simp [Instr.storeAt, Instr.sureAddr, show a.eval p = _ from hp, Sem.run_bind, hst]
          have hfil : ∀ q, q ∈ bx.own.filter (fun q => Nat.blt q off || Nat.ble (off + ti.ty.size) q) → q ∈ bx.own ∧ (q < off ∨ off + ti.ty.size ≤ q) := fun q hq => by
            obtain ⟨h5, h6⟩ := List.mem_filter.1 hq
            refine ⟨h5, ?_⟩
            simp only [Bool.or_eq_true, Nat.blt_eq, Nat.ble_eq] at h6
            exact h6
          cases own with
          | false =>
            exact good_skip hrun h4 (hr.stored hb hx.1 hz (fun q hq => .inl (hfil q (by simpa using hq))) (fun e he => by
              simp only at he
              have : ∀ (t : Ty) (x : t.den), t = .sl e → upd t x bx.t bx.x off = some z → leafAt bx.t off = some (.sl e) := fun t x ht hu => by subst ht; exact leafAt_upd e hu
              exact this _ _ he hz))
          | true =>
            cases x with
            | tmp s =>
              have hs : getE F.v s = .val ⟨ti.ty, dx⟩ true := h3
              have hr1 := hr.drop hs
              have hS : Same w w col (recolor col (.sp s) (.spb kk off)) (· = .sp s) := recolor_same
              have hr2 : Rel w0 c0 n ⟨setE F.v s (.val ⟨ti.ty, dx⟩ false), F.b⟩ a w (recolor col (.sp s) (.spb kk off)) blk :=
                ⟨hr.below, recolor_old (by simp) hr.old, hr.fix.go hS (by simp), hr.pin, fun s' => hS.ent (by simp) (fun y hy hT => by
                  simp only [Tag.sp.injEq] at hT
                  subst hT
                  have : getE (setE F.v s' (.val ⟨ti.ty, dx⟩ false)) s' = .val y true := hy
                  rw [getE_setE, if_pos rfl] at this
                  simp at this) (fun _ _ => rfl) (hr1.ents s'), fun k bx' hk => hS.box (by simp) (by simp) (fun _ _ h => by simp at h) rfl (hr1.boxes k bx' hk), hr.defers, hr.size⟩
              have hsp := recolor_spare (y := .spb kk off) (hx.2 rfl)
              refine good_skip hrun h4 (hr2.stored (d := ⟨ti.ty, dx⟩) hb (hS.repV (by simp) hx.1) hz (fun q hq => ?_) (fun e he => by
                simp only at he
                have : ∀ (t : Ty) (x : t.den), t = .sl e → upd t x bx.t bx.x off = some z → leafAt bx.t off = some (.sl e) := fun t x ht hu => by subst ht; exact leafAt_upd e hu
                exact this _ _ he hz))
              rcases List.mem_append.1 hq with hq | hq
              · exact .inl (hfil q hq)
              · cases hsl : ti.ty.isSl with
                | false => simp [hsl] at hq
                | true =>
                  simp [hsl] at hq
                  obtain ⟨e', he'⟩ : ∃ e', ti.ty = .sl e' := by cases hh : ti.ty <;> simp_all [Ty.isSl]
                  refine .inr ⟨hq, e', he', ?_⟩
                  have : elSz ti.ty = e'.size := by rw [he']; rfl
                  rw [← this]; exact hsp
            | const c =>
              exact good_skip hrun h4 (hr.stored hb hx.1 hz (fun q hq => by
                rcases List.mem_append.1 hq with hq | hq
                · exact .inl (hfil q hq)
                · cases hsl : ti.ty.isSl with
                  | false => simp [hsl] at hq
                  | true =>
                    simp [hsl] at hq
                    obtain ⟨e', he'⟩ : ∃ e', ti.ty = .sl e' := by cases hh : ti.ty <;> simp_all [Ty.isSl]
                    refine .inr ⟨hq, e', he', ?_⟩
                    have hc := const_ok (w := w) (col := col) (blk := blk) (w0 := w0) (tt := tt) t c 0
                    have h3' : constE tt t c = .val ⟨ti.ty, dx⟩ true := h3
                    have hcv : c = .slice none 0 0 := by
                      unfold constE at h3'
                      split at h3' <;> first | rfl | (simp at h3'; done)
                    exact .inl hcv) (fun e he => by
                simp only at he
                have : ∀ (t : Ty) (x : t.den), t = .sl e → upd t x bx.t bx.x off = some z → leafAt bx.t off = some (.sl e) := fun t x ht hu => by subst ht; exact leafAt_upd e hu
                exact this _ _ he hz))
            | func f => simp [ent] at h3
            | global g => simp [ent] at h3
        · cases h
    · cases h
  · cases h

end
end Go.Ev
