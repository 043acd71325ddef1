/-
  THE EVALUATOR, PART J: one operation's outcome depends on what it names alone, and changes what it writes alone; so operations that stand apart may change places.
-/
import Derived.Test.YthappjffpkpojaaEvI
namespace Go.Ev
open Go Go.RowKit
set_option linter.unusedVariables false
set_option linter.unusedSimpArgs false

section
variable {P : Program} {tt : TT} {Γ : List Con} {tr : Bool} {o : Oper}

/-! ### what follows does not change what an operation tells -/
theorem cutE_refs {b : Bool} {d : DV} {k : Nat} (h : (cutE b d).refs k) : False := by
  cases b <;> exact h

theorem put_bind {R : Type} (o : Oper) (k : Delta → Option R) (e : Ent) (more : List (Nat × Ent)) : put o k e more = (put o some e more).bind k := by
  unfold put; cases o.dst <;> rfl

theorem appendK_bind {R : Type} {gv : Nat → Ent} (k : Delta → Option R) (t u : Nat) (s x : Operand) : appendK tt gv o k t u s x = (appendK tt gv o some t u s x).bind k := by
  unfold appendK
  split
  · rename_i e xs own d _ ti _ _ _
    cases own && Nat.beq t u && decide (ti.ty = .sl e)
    · rfl
    · simp only [cond_true]
      split
      · rename_i ys _
        cases decide (xs.length + ys.length ≤ most)
        · rfl
        · exact put_bind _ _ _ _
      · rfl
  · rename_i e xs d _ ti _ _ _
    cases Nat.beq t u && decide (ti.ty = .sl e)
    · rfl
    · simp only [cond_true]
      split
      · rename_i ys _
        cases Nat.blt 0 ys.length && decide (xs.length + ys.length ≤ most)
        · rfl
        · exact put_bind _ _ _ _
      · rfl
  · rfl

theorem callCon_bind {R : Type} (k : Delta → Option R) (g : Nat) (as : List Arg) : ∀ (l : List Con), callCon o k g as l = (callCon o some g as l).bind k
  | [] => rfl
  | c :: r => by
    simp only [callCon]
    cases Nat.beq c.f g && c.mu.isNone
    · exact callCon_bind k g as r
    · simp only [cond_true]
      split
      · rename_i x _
        cases c.fn x
        · rfl
        · exact put_bind _ _ _ _
      · exact callCon_bind k g as r

theorem cond_bind {α β : Type} (b : Bool) (x : Option α) (f : α → Option β) : (bif b then x else none).bind f = bif b then x.bind f else none := by cases b <;> rfl
theorem cond_bind' {α β : Type} (b : Bool) (x : Option α) (f : α → Option β) : (bif b then none else x).bind f = bif b then none else x.bind f := by cases b <;> rfl
theorem cond_bind2 {α β : Type} (b : Bool) (x y : Option α) (f : α → Option β) : (bif b then x else y).bind f = bif b then x.bind f else y.bind f := by cases b <;> rfl

theorem cond_some {α : Type} {b : Bool} {x : Option α} {y : α} (h : (bif b then x else none) = some y) : b = true ∧ x = some y := by cases b <;> simp_all

theorem sliceK_bind {R : Type} {gv : Nat → Ent} (t : Nat) (x : Operand) (lo hi mx : Option Operand) (k : Delta → Option R) : sliceK tt tr gv o t x lo hi mx k = (sliceK tt tr gv o t x lo hi mx some).bind k := by
  unfold sliceK
  split
  · rw [cond_bind]
    congr 1
    split <;> first | exact put_bind _ _ _ _ | (rw [cond_bind]; congr 1; exact put_bind _ _ _ _) | rfl
  · rfl

theorem loadK_bind {R : Type} {gv : Nat → Ent} {gb : Nat → Option Box} (t : Nat) (a : Operand) (k : Delta → Option R) : loadK tt tr gv gb o t a k = (loadK tt tr gv gb o t a some).bind k := by
  unfold loadK
  split
  · split
    · split
      · rw [cond_bind2]
        congr 1
        · cases o.dst <;> rfl
        · exact put_bind _ _ _ _
      · rfl
    · rfl
  · split
    · exact put_bind _ _ _ _
    · rfl
  · rfl

theorem storeK_bind {R : Type} {gv : Nat → Ent} {gb : Nat → Option Box} (t : Nat) (a x : Operand) (k : Delta → Option R) : storeK tt gv gb o t a x k = (storeK tt gv gb o t a x some).bind k := by
  unfold storeK
  split
  · split
    · rw [cond_bind]
      congr 1
      split <;> rfl
    · rfl
  · rfl

theorem fieldAddrK_bind {R : Type} {gv : Nat → Ent} (t f : Nat) (x : Operand) (k : Delta → Option R) : fieldAddrK tt gv o t x f k = (fieldAddrK tt gv o t x f some).bind k := by
  unfold fieldAddrK
  split
  · split
    · rw [cond_bind']
      congr 1
      split
      · exact put_bind _ _ _ _
      · rw [cond_bind]
        congr 1
        split
        · exact put_bind _ _ _ _
        · rfl
      · rfl
    · rfl
  · rfl

theorem indexAddrK_bind {R : Type} {gv : Nat → Ent} (t : Nat) (x ix : Operand) (k : Delta → Option R) : indexAddrK tt gv o t x ix k = (indexAddrK tt gv o t x ix some).bind k := by
  unfold indexAddrK
  split
  · rename_i i e xs _ _ _ _
    rw [cond_bind]
    congr 1
    cases idx xs i
    · rfl
    · exact put_bind _ _ _ _
  · split
    · rw [cond_bind]
      congr 1
      exact put_bind _ _ _ _
    · rfl
  · split
    · rw [cond_bind]
      congr 1
      split
      · exact put_bind _ _ _ _
      · rfl
    · rfl
  · rfl

theorem unK_bind {R : Type} (op : UnOp) (p : DV) (κ : DV → Option R) : unK op p κ = (unK op p some).bind κ := by
  obtain ⟨t, x⟩ := p
  cases t <;> cases op <;> rfl

theorem callK_bind {R : Type} {gv : Nat → Ent} {gb : Nat → Option Box} (c : Call) (k : Delta → Option R) : callK Γ tt gv gb o c k = (callK Γ tt gv gb o c some).bind k := by
  obtain ⟨callee, args, ts⟩ := c
  unfold callK
  cases callee with
  | builtin b =>
    simp only
    split
    · split
      · rw [cond_bind]
        congr 1
        exact put_bind _ _ _ _
      · rfl
    · exact appendK_bind _ _ _ _ _
    · split
      · rw [bestK_bind, bestK_bind (κ := fun d => put o some (.val d false) []), Option.bind_assoc]
        congr 1
        funext d
        exact put_bind _ _ _ _
      · rfl
    · split
      · rw [bestK_bind, bestK_bind (κ := fun d => put o some (.val d false) []), Option.bind_assoc]
        congr 1
        funext d
        exact put_bind _ _ _ _
      · rfl
    · rfl
  | value f =>
    simp only
    split
    · split
      · exact callCon_bind _ _ _ _
      · rfl
    · rfl
  | invoke _ _ => rfl

theorem core_bind {R : Type} {gv : Nat → Ent} {gb : Nat → Option Box} (k : Delta → Option R) : core Γ tt tr gv gb o k = (core Γ tt tr gv gb o some).bind k := by
  unfold core
  split
  · unfold mvK; split <;> first | rfl | exact put_bind _ _ _ _
  · unfold mvK; split <;> first | rfl | exact put_bind _ _ _ _
  · split
    · rw [cond_bind2]; congr 1 <;> exact put_bind _ _ _ _
    · rw [cond_bind]; congr 1; exact put_bind _ _ _ _
    · rw [cond_bind']; congr 1; exact put_bind _ _ _ _
    · rfl
  · split <;> rfl
  · split
    · rw [cond_bind]; congr 1
    · rfl
  · split
    · rw [cond_bind']
      congr 1
      split
      · exact put_bind _ _ _ _
      · rfl
    · rfl
  · split
    · split
      · rw [cond_bind]
        congr 1
        split
        · exact put_bind _ _ _ _
        · rfl
      · rfl
    · rfl
  · exact loadK_bind _ _ _
  · exact storeK_bind _ _ _ _
  · split <;> first | rfl | exact put_bind _ _ _ _
  · split
    · rw [binK_bind, binK_bind (κ := fun d => put o some (.val d false) []), Option.bind_assoc]
      congr 1
      funext d
      exact put_bind _ _ _ _
    · rfl
  · split
    · rw [unK_bind, unK_bind (κ := fun d => put o some (.val d false) []), Option.bind_assoc]
      congr 1
      funext d
      exact put_bind _ _ _ _
    · rfl
  · split
    · split
      · exact put_bind _ _ _ _
      · rfl
    · rfl
  · rw [cond_bind]
    congr 1
    split
    · exact put_bind _ _ _ _
    · rfl
  · split
    · split
      · rw [cond_bind]; congr 1; exact put_bind _ _ _ _
      · rfl
    · rfl
  · exact sliceK_bind _ _ _ _ _ _
  · exact fieldAddrK_bind _ _ _ _
  · split
    · split
      · rw [cond_bind]
        congr 1
        split
        · exact put_bind _ _ _ _
        · rfl
      · rfl
    · rfl
  · exact indexAddrK_bind _ _ _ _
  · split
    · split
      · exact put_bind _ _ _ _
      · rfl
    · rfl
  · exact callK_bind _ _
  · rfl

/-! ### what is named -/
def namesOf (o : Oper) : List Nat := o.op.operands.toList.filterMap fun | .tmp t => some t | _ => none

theorem ent_congr {gv gv' : Nat → Ent} {xs : List Operand} (h : ∀ s ∈ xs.filterMap (fun | .tmp t => some t | _ => none), gv s = gv' s) (ty : Nat) {x : Operand} (hx : x ∈ xs) : ent tt gv ty x = ent tt gv' ty x := by
  cases x with
  | tmp t => exact h t (List.mem_filterMap.2 ⟨.tmp t, hx, rfl⟩)
  | _ => rfl

theorem core_congr {gv gv' : Nat → Ent} {gb gb' : Nat → Option Box} (h : ∀ s ∈ namesOf o, gv s = gv' s) (hb : gb = gb' ∨ ((∀ t x, o.op ≠ .load t x) ∧ (∀ t x y, o.op ≠ .store t x y) ∧ (∀ c, o.op = .call c → ∀ f, c.callee ≠ .value f))) :
    core Γ tt tr gv gb o some = core Γ tt tr gv' gb' o some := by
  have he : ∀ ty x, x ∈ o.op.operands.toList → ent tt gv ty x = ent tt gv' ty x := fun ty x hx => ent_congr h ty hx
  cases hop : o.op with
  | move x => unfold core; simp only [hop]; unfold mvK; rw [he _ x (by simp [hop, Op.operands])]
  | assign x => unfold core; simp only [hop]; unfold mvK; rw [he _ x (by simp [hop, Op.operands])]
  | pick c x y => unfold core; simp only [hop]; rw [he _ c (by simp [hop, Op.operands]), he _ x (by simp [hop, Op.operands]), he _ y (by simp [hop, Op.operands])]
  | alloc t => unfold core; simp only [hop]
  | box t x => unfold core; simp only [hop]; rw [he _ x (by simp [hop, Op.operands])]
  | build t ps =>
    unfold core; simp only [hop]
    have : ∀ ty, partsD tt gv ty ps = partsD tt gv' ty ps := fun ty => by
      unfold partsD
      refine List.map_congr_left fun p hp => ?_
      rw [he _ p.2 (by simp only [hop, Op.operands, List.mem_map]; exact ⟨p, hp, rfl⟩)]
    simp only [this]
  | buildSlice t l ps =>
    unfold core; simp only [hop]
    have : ∀ ty, partsD tt gv ty ps = partsD tt gv' ty ps := fun ty => by
      unfold partsD
      refine List.map_congr_left fun p hp => ?_
      rw [he _ p.2 (by simp only [hop, Op.operands, List.mem_map]; exact ⟨p, hp, rfl⟩)]
    simp only [this]
  | load t x =>
    rcases hb with rfl | ⟨h1, _⟩
    · unfold core; simp only [hop]; unfold loadK; rw [he _ x (by simp [hop, Op.operands])]
    · exact absurd hop (h1 t x)
  | store t x y =>
    rcases hb with rfl | ⟨_, h1, _⟩
    · unfold core; simp only [hop]; unfold storeK; rw [he _ x (by simp [hop, Op.operands]), he _ y (by simp [hop, Op.operands])]
    · exact absurd hop (h1 t x y)
  | nilCheck x => unfold core; simp only [hop]; rw [he _ x (by simp [hop, Op.operands])]
  | binOp op t x y u => unfold core; simp only [hop]; rw [he _ x (by simp [hop, Op.operands]), he _ y (by simp [hop, Op.operands])]
  | unOp op t x => unfold core; simp only [hop]; rw [he _ x (by simp [hop, Op.operands])]
  | convert s d x => unfold core; simp only [hop]; rw [he _ x (by simp [hop, Op.operands])]
  | makeFunc f first caps =>
    cases f with
    | func f =>
      unfold core; simp only [hop]
      have : caps.toList.map (ent tt gv 0) = caps.toList.map (ent tt gv' 0) := List.map_congr_left fun x hx => he 0 x (by simp only [hop, Op.operands, Array.toList_append, List.mem_append]; exact .inr hx)
      rw [this]
    | _ => unfold core; simp only [hop]
  | makeSlice t l c => unfold core; simp only [hop]; rw [he _ l (by simp [hop, Op.operands]), he _ c (by simp [hop, Op.operands])]
  | slice t x lo hi mx =>
    unfold core; simp only [hop]; unfold sliceK
    have hbn : ∀ y : Option Operand, (∀ z, y = some z → z ∈ o.op.operands.toList) → bndK tt gv y = bndK tt gv' y := fun y hy => by
      cases y with
      | none => rfl
      | some z => simp only [bndK]; rw [he 0 z (hy z rfl)]
    rw [he _ x (by simp [hop, Op.operands]), hbn lo (fun z hz => by subst hz; simp [hop, Op.operands]), hbn hi (fun z hz => by subst hz; simp [hop, Op.operands]), hbn mx (fun z hz => by subst hz; simp [hop, Op.operands])]
  | fieldAddr t x f => unfold core; simp only [hop]; unfold fieldAddrK; rw [he _ x (by simp [hop, Op.operands])]
  | field t x f => unfold core; simp only [hop]; rw [he _ x (by simp [hop, Op.operands])]
  | indexAddr t x ix => unfold core; simp only [hop]; unfold indexAddrK; rw [he _ x (by simp [hop, Op.operands]), he _ ix (by simp [hop, Op.operands])]
  | extract x i => unfold core; simp only [hop]; rw [he _ x (by simp [hop, Op.operands])]
  | call c =>
    obtain ⟨callee, args, ts⟩ := c
    unfold core; simp only [hop]; unfold callK
    have hargs : ∀ ty x, x ∈ args.toList → ent tt gv ty x = ent tt gv' ty x := fun ty x hx => he ty x (by simp only [hop, Op.operands, Call.operands, Array.toList_append, List.mem_append]; exact .inr hx)
    cases callee with
    | builtin b =>
      simp only
      split
      · rename_i x t hxs _; rw [hargs t x (by rw [hxs]; simp)]
      · rename_i s x t u hxs _; unfold appendK; rw [hargs t s (by rw [hxs]; simp), hargs u x (by rw [hxs]; simp)]
      · rename_i x y t u hxs _; rw [hargs t x (by rw [hxs]; simp), hargs u y (by rw [hxs]; simp)]
      · rename_i x y t u hxs _; rw [hargs t x (by rw [hxs]; simp), hargs u y (by rw [hxs]; simp)]
      · rfl
    | value f =>
      rcases hb with rfl | ⟨_, _, h1⟩
      · simp only
        have hm : (zipTys args.toList ts.toList).map (fun p => ent tt gv p.1 p.2) = (zipTys args.toList ts.toList).map (fun p => ent tt gv' p.1 p.2) := List.map_congr_left fun p hp => hargs p.1 p.2 (by
          rw [← zipTys_map args.toList ts.toList]; exact List.mem_map.2 ⟨p, hp, rfl⟩)
        rw [hm, he 0 f (by simp [hop, Op.operands, Call.operands])]
      · exact absurd rfl (h1 _ hop f)
    | invoke _ _ => rfl
  | _ => unfold core; simp only [hop]

/-! ### what is written -/
def Writes (us : List (Nat × Ent)) (ws : List Nat) : Prop := ∀ p ∈ us, p.1 ∈ ws

theorem put_writes {e : Ent} {more : List (Nat × Ent)} {δ : Delta} {ws : List Nat} (h : put o some e more = some δ) (hm : Writes more ws) (hd : ∀ d, o.dst = some d → d ∈ ws) : δ.purge = none ∧ Writes δ.us ws ∧ δ.bs = [] := by
  obtain ⟨d, hdst, rfl⟩ := put_some h
  refine ⟨rfl, fun p hp => ?_, rfl⟩
  rcases List.mem_append.1 hp with hp | hp
  · exact hm p hp
  · simp only [List.mem_singleton] at hp; subst hp; exact hd d hdst

theorem writes_nil {ws : List Nat} : Writes [] ws := fun _ h => by simp at h

theorem left_writes {d : DV} {x : Operand} {ws : List Nat} (h : ∀ s, x = .tmp s → s ∈ ws) : Writes (left d x) ws := by
  cases x with
  | tmp s => intro p hp; simp only [left, List.mem_singleton] at hp; subst hp; exact h s rfl
  | _ => exact writes_nil

theorem bnd_none {gv : Nat → Ent} {x : Option Operand} (h : bndK tt gv x = some none) : x = none := by
  cases x with
  | none => rfl
  | some y =>
    simp only [bndK] at h
    split at h <;> simp at h

theorem core_writes {ops : List Oper} {gv : Nat → Ent} {gb : Nat → Option Box} {δ : Delta} (hm : makes o = false) (h : core Γ tt (takes tt ops o) gv gb o some = some δ) :
    δ.purge = none ∧ Writes δ.us (writes tt ops o) ∧ (mem tt ops o ≠ 2 → δ.bs = []) := by
  have hdst : ∀ d, o.dst = some d → d ∈ writes tt ops o := fun d hd => by simp [writes, hd]
  have fin : ∀ {e more}, put o some e more = some δ → Writes more (writes tt ops o) → δ.purge = none ∧ Writes δ.us (writes tt ops o) ∧ (mem tt ops o ≠ 2 → δ.bs = []) := fun hh hw => by
    obtain ⟨h1, h2, h3⟩ := put_writes hh hw hdst
    exact ⟨h1, h2, fun _ => h3⟩
  have moved : ∀ {x : Operand}, (o.op = .move x ∨ o.op = .assign x) → mvK tt (takes tt ops o) gv o x some = some δ → δ.purge = none ∧ Writes δ.us (writes tt ops o) ∧ (mem tt ops o ≠ 2 → δ.bs = []) := fun {x} hop hh => by
    unfold mvK at hh
    split at hh
    · cases hh
    · rename_i s d own _
      cases hot : own && takes tt ops o with
      | false => rw [hot] at hh; exact fin hh writes_nil
      | true =>
        rw [hot] at hh
        simp only [cond_true] at hh
        have ht : takes tt ops o = true := by cases own <;> simp_all
        refine fin hh (left_writes fun s' hs => ?_)
        simp only [Operand.tmp.injEq] at hs
        subst hs
        rcases hop with hop | hop <;> simp [writes, taken, hop, ht]
    · exact fin hh writes_nil
  cases hop : o.op with
  | move x => unfold core at h; simp only [hop] at h; exact moved (.inl hop) h
  | assign x => unfold core at h; simp only [hop] at h; exact moved (.inr hop) h
  | pick c x y =>
    unfold core at h; simp only [hop] at h
    split at h
    · rename_i q _ _ _ _ _ _ _ _; cases q <;> exact fin h writes_nil
    · rename_i q _ _ _ _ _ _; cases q <;> first | exact fin h writes_nil | cases h
    · rename_i q _ _ _ _ _ _; cases q <;> first | exact fin h writes_nil | cases h
    · cases h
  | alloc t => simp [makes, hop] at hm
  | box t x => simp [makes, hop] at hm
  | build t ps =>
    unfold core at h; simp only [hop] at h
    split at h
    · rename_i ti _
      cases hag : !ti.ty.agg <;> rw [hag] at h
      · simp only [cond_false] at h
        split at h
        · exact fin h writes_nil
        · cases h
      · cases h
    · cases h
  | buildSlice t l ps =>
    unfold core at h; simp only [hop] at h
    split at h
    · split at h
      · rename_i ti _ e _
        cases hb : Nat.ble l 4096 && Nat.ble e.size 4096 <;> rw [hb] at h
        · cases h
        · simp only [cond_true] at h
          split at h
          · exact fin h writes_nil
          · cases h
      · cases h
    · cases h
  | load t x =>
    unfold core at h; simp only [hop] at h
    unfold loadK at h
    split at h
    · rename_i ti kk off _ _
      split at h
      · rename_i bx _
        split at h
        · rename_i y _
          cases hb : takes tt ops o && ti.ty.isSl && bx.own.contains off <;> rw [hb] at h
          · exact fin h writes_nil
          · simp only [cond_true] at h
            split at h
            · rename_i d hd
              simp only [Option.some.injEq] at h
              subst h
              have ht : takes tt ops o = true := by cases hh : takes tt ops o <;> simp_all
              refine ⟨rfl, fun p hp => ?_, fun hne => ?_⟩
              · simp only [List.mem_singleton] at hp; subst hp; exact hdst d hd
              · exact absurd (by simp [mem, hop, ht]) hne
            · cases h
        · cases h
      · cases h
    · split at h
      · exact fin h writes_nil
      · cases h
    · cases h
  | store t x y =>
    unfold core at h; simp only [hop] at h
    unfold storeK at h
    split at h
    · rename_i ti kk off d own _ _ _ _
      split at h
      · rename_i bx _
        cases hb : decide (d.t = ti.ty) <;> rw [hb] at h
        · cases h
        · simp only [cond_true] at h
          split at h
          · simp only [Option.some.injEq] at h
            subst h
            refine ⟨rfl, ?_, fun hne => absurd (by simp [mem, hop]) hne⟩
            cases own
            · exact writes_nil
            · refine left_writes fun s hs => ?_
              subst hs
              simp [writes, taken, hop]
          · cases h
      · cases h
    · cases h
  | nilCheck x =>
    unfold core at h; simp only [hop] at h
    split at h
    · exact fin h writes_nil
    · exact fin h writes_nil
    · exact fin h writes_nil
    · cases h
  | binOp op t x y u =>
    unfold core at h; simp only [hop] at h
    split at h
    · rename_i p _ q _ _ _
      rw [binK_bind] at h
      cases hb : binK tt op t p q some with
      | none => rw [hb] at h; cases h
      | some r => rw [hb] at h; exact fin h writes_nil
    · cases h
  | unOp op t x =>
    unfold core at h; simp only [hop] at h
    split at h
    · rename_i p _ _
      rw [unK_bind] at h
      cases hb : unK op p some with
      | none => rw [hb] at h; cases h
      | some r => rw [hb] at h; exact fin h writes_nil
    · cases h
  | convert s d x =>
    unfold core at h; simp only [hop] at h
    split at h
    · split at h
      · exact fin h writes_nil
      · cases h
    · cases h
  | makeFunc f first caps =>
    cases f with
    | func f =>
      unfold core at h; simp only [hop] at h
      cases hb : first.isEmpty <;> rw [hb] at h
      · cases h
      · simp only [cond_true] at h
        split at h
        · exact fin h writes_nil
        · cases h
    | _ => unfold core at h; simp [hop] at h
  | makeSlice t l c =>
    unfold core at h; simp only [hop] at h
    split at h
    · rename_i ti p q _ _ _
      split at h
      · cases hb : decide (0 ≤ p) && decide (p ≤ q) && decide (q ≤ 2147483648) <;> rw [hb] at h
        · cases h
        · exact fin h writes_nil
      · cases h
    · cases h
  | slice t x lo hi mx =>
    unfold core at h; simp only [hop] at h
    unfold sliceK at h
    split at h
    · rename_i e xs own ti _ _
      cases hty : decide (ti.ty = .sl e) <;> rw [hty] at h
      · cases h
      · simp only [cond_true] at h
        split at h
        · rename_i b1 b2 b3
          cases hot : own && takes tt ops o with
          | false => rw [hot] at h; exact fin h writes_nil
          | true =>
            rw [hot] at h
            simp only [cond_true] at h
            have ht : takes tt ops o = true := by cases own <;> simp_all
            refine fin h (left_writes fun s' hs => ?_)
            subst hs
            have e1 := bnd_none b1
            have e2 := bnd_none b2
            have e3 := bnd_none b3
            subst e1; subst e2; subst e3
            simp [writes, taken, hop, ht]
        all_goals first
          | (cases h; done)
          | exact fin (cond_some h).2 writes_nil
    · cases h
  | fieldAddr t x f =>
    unfold core at h; simp only [hop] at h
    unfold fieldAddrK at h
    split at h
    · rename_i ti _
      split at h
      · rename_i off ft fty _
        cases hb : Nat.beq fty.size 0 || !Nat.beq ti.len 0 || !ti.ty.agg <;> rw [hb] at h
        · simp only [cond_false] at h
          split at h
          · exact fin h writes_nil
          · rename_i d _
            cases hdt : decide (d.t = ti.ty) <;> rw [hdt] at h
            · cases h
            · simp only [cond_true] at h
              split at h
              · exact fin h writes_nil
              · cases h
          · cases h
        · cases h
      · cases h
    · cases h
  | field t x f =>
    unfold core at h; simp only [hop] at h
    split at h
    · rename_i ti d own _ _
      split at h
      · rename_i off ft fty _
        cases hb : decide (d.t = ti.ty) && Nat.beq ti.len 0 && ti.ty.agg <;> rw [hb] at h
        · cases h
        · simp only [cond_true] at h
          split at h
          · exact fin h writes_nil
          · cases h
      · cases h
    · cases h
  | indexAddr t x ix =>
    unfold core at h; simp only [hop] at h
    unfold indexAddrK at h
    split at h
    · rename_i ti i e xs _ _ _ _
      cases hb : decide (ti.ty = .sl e) <;> rw [hb] at h
      · cases h
      · simp only [cond_true] at h
        cases hid : idx xs i with
        | none => rw [hid] at h; cases h
        | some y => rw [hid] at h; exact fin h writes_nil
    · rename_i ti i kk off _ _ _
      split at h
      · rename_i e r _
        cases hb : decide (0 ≤ i) && Nat.blt i.toNat ti.len && !Nat.beq e.size 0 <;> rw [hb] at h
        · cases h
        · exact fin h writes_nil
      · cases h
    · rename_i ti i d _ _ _
      split at h
      · rename_i e r _
        cases hb : decide (0 ≤ i) && Nat.blt i.toNat ti.len && !Nat.beq e.size 0 && decide (d.t = ti.ty) <;> rw [hb] at h
        · cases h
        · simp only [cond_true] at h
          split at h
          · exact fin h writes_nil
          · cases h
      · cases h
    · cases h
  | extract x i =>
    unfold core at h; simp only [hop] at h
    split at h
    · split at h
      · exact fin h writes_nil
      · cases h
    · cases h
  | call c =>
    obtain ⟨callee, args, ts⟩ := c
    unfold core at h; simp only [hop] at h
    unfold callK at h
    cases callee with
    | builtin b =>
      simp only at h
      split at h
      · split at h
        · rename_i e xs _ ti _ _
          cases hty : decide (ti.ty = .sl e) <;> rw [hty] at h
          · cases h
          · exact fin h writes_nil
        · cases h
      · rename_i s x t u hxs hts
        unfold appendK at h
        split at h
        · rename_i e xs own d _ ti _ _ _
          cases hb : own && Nat.beq t u && decide (ti.ty = .sl e) <;> rw [hb] at h
          · cases h
          · simp only [cond_true] at h
            split at h
            · rename_i ys _
              cases hl : decide (xs.length + ys.length ≤ most) <;> rw [hl] at h
              · cases h
              · refine fin h (left_writes fun s' hs => ?_)
                subst hs
                have hxs' : args.toList = [.tmp s', x] := hxs
                simp [writes, taken, hop, hxs']
            · cases h
        · rename_i e xs d _ ti _ _ _
          cases hb : Nat.beq t u && decide (ti.ty = .sl e) <;> rw [hb] at h
          · cases h
          · simp only [cond_true] at h
            split at h
            · rename_i ys _
              cases hl : Nat.blt 0 ys.length && decide (xs.length + ys.length ≤ most) <;> rw [hl] at h
              · cases h
              · exact fin h writes_nil
            · cases h
        · cases h
      · split at h
        · rename_i p _ q _ _ _
          rw [bestK_bind] at h
          cases hb : bestK true p q some with
          | none => rw [hb] at h; cases h
          | some r => rw [hb] at h; exact fin h writes_nil
        · cases h
      · split at h
        · rename_i p _ q _ _ _
          rw [bestK_bind] at h
          cases hb : bestK false p q some with
          | none => rw [hb] at h; cases h
          | some r => rw [hb] at h; exact fin h writes_nil
        · cases h
      · cases h
    | value f =>
      simp only at h
      split at h
      · split at h
        · obtain ⟨c, _, _, _, x, r, _, _, hput⟩ := callCon_some h
          exact fin hput writes_nil
        · cases h
      · cases h
    | invoke _ _ => simp at h
  | _ => unfold core at h; simp [hop] at h


/-! ### what is referred to -/
theorem left_refs {d : DV} {x : Operand} {k : Nat} : ∀ p ∈ left d x, ¬ p.2.refs k := by
  cases x with
  | tmp s => intro p hp; simp only [left, List.mem_singleton] at hp; subst hp; exact fun h => h
  | _ => exact fun p hp => by simp [left] at hp

theorem noR {k : Nat} : ∀ p ∈ ([] : List (Nat × Ent)), ¬ p.2.refs k := fun p hp => by simp at hp

/-- An operation (but the one that makes k) brings no new reference to k. -/
theorem core_refs {k : Nat} {gv : Nat → Ent} {gb : Nat → Option Box} {δ : Delta} (hF : ∀ s, ¬ (gv s).refs k) (hm : makes o = true → o.dst ≠ some k) (h : core Γ tt tr gv gb o some = some δ) : ∀ p ∈ δ.us, ¬ p.2.refs k := by
  have fin : ∀ {e more}, put o some e more = some δ → (∀ p ∈ more, ¬ p.2.refs k) → ¬ e.refs k → ∀ p ∈ δ.us, ¬ p.2.refs k := fun hh hw he => by
    obtain ⟨d, _, rfl⟩ := put_some hh
    intro p hp
    rcases List.mem_append.1 hp with hp | hp
    · exact hw p hp
    · simp only [List.mem_singleton] at hp; subst hp; exact he
  have hent : ∀ ty x, ¬ (ent tt gv ty x).refs k := fun ty x => by
    cases x with
    | tmp t => exact hF t
    | const c =>
      show ¬ (constE tt ty c).refs k
      unfold constE
      split
      · exact fun h => h
      · exact fun h => h
      · exact fun h => h
      · split
        · split
          · exact fun h => h
          · exact fun h => h
        · exact fun h => h
      · exact fun h => h
    | func f => exact fun ⟨_, h⟩ => by simp at h
    | global g => exact fun h => h
  have moved : ∀ {x : Operand}, mvK tt tr gv o x some = some δ → ∀ p ∈ δ.us, ¬ p.2.refs k := fun {x} hh => by
    unfold mvK at hh
    split at hh
    · cases hh
    · rename_i s d own _
      cases hot : own && tr with
      | false => rw [hot] at hh; exact fin hh noR fun h => h
      | true => rw [hot] at hh; simp only [cond_true] at hh; exact fin hh left_refs fun h => h
    · exact fin hh noR (hent _ _)
  cases hop : o.op with
  | move x => unfold core at h; simp only [hop] at h; exact moved h
  | assign x => unfold core at h; simp only [hop] at h; exact moved h
  | pick c x y =>
    unfold core at h; simp only [hop] at h
    split at h
    · rename_i q _ _ _ _ _ _ _ _; cases q <;> exact fin h noR fun h => h
    · rename_i q _ _ _ _ _ _; cases q <;> first | exact fin h noR fun h => h | cases h
    · rename_i q _ _ _ _ _ _; cases q <;> first | exact fin h noR fun h => h | cases h
    · cases h
  | alloc t =>
    have hne := hm (by simp [makes, hop])
    unfold core at h; simp only [hop] at h
    split at h
    · rename_i ti d _ hd
      simp only [Option.some.injEq] at h
      subst h
      intro p hp
      simp only [List.mem_singleton] at hp
      subst hp
      exact fun e => hne (by rw [hd]; exact congrArg some e)
    · cases h
  | box t x =>
    have hne := hm (by simp [makes, hop])
    unfold core at h; simp only [hop] at h
    split at h
    · rename_i ti d q own _ hd _
      cases hq : decide (q.t = ti.ty) <;> rw [hq] at h
      · cases h
      · simp only [cond_true, Option.some.injEq] at h
        subst h
        intro p hp
        simp only [List.mem_singleton] at hp
        subst hp
        exact fun e => hne (by rw [hd]; exact congrArg some e)
    · cases h
  | build t ps =>
    unfold core at h; simp only [hop] at h
    split at h
    · rename_i ti _
      cases hag : !ti.ty.agg <;> rw [hag] at h
      · simp only [cond_false] at h
        split at h
        · exact fin h noR fun h => h
        · cases h
      · cases h
    · cases h
  | buildSlice t l ps =>
    unfold core at h; simp only [hop] at h
    split at h
    · split at h
      · rename_i ti _ e _
        cases hb : Nat.ble l 4096 && Nat.ble e.size 4096 <;> rw [hb] at h
        · cases h
        · simp only [cond_true] at h
          split at h
          · exact fin h noR fun h => h
          · cases h
      · cases h
    · cases h
  | load t x =>
    unfold core at h; simp only [hop] at h
    unfold loadK at h
    split at h
    · rename_i ti kk off _ _
      split at h
      · rename_i bx _
        split at h
        · rename_i y _
          cases hb : tr && ti.ty.isSl && bx.own.contains off <;> rw [hb] at h
          · exact fin h noR fun h => h
          · simp only [cond_true] at h
            split at h
            · rename_i d hd
              simp only [Option.some.injEq] at h
              subst h
              have ht : tr = true := by cases hh : tr <;> simp_all
              intro p hp; simp only [List.mem_singleton] at hp; subst hp; exact fun h => h
            · cases h
        · cases h
      · cases h
    · split at h
      · exact fin h noR fun h => h
      · cases h
    · cases h
  | store t x y =>
    unfold core at h; simp only [hop] at h
    unfold storeK at h
    split at h
    · rename_i ti kk off d own _ _ _ _
      split at h
      · rename_i bx _
        cases hb : decide (d.t = ti.ty) <;> rw [hb] at h
        · cases h
        · simp only [cond_true] at h
          split at h
          · simp only [Option.some.injEq] at h
            subst h
            cases own
            · exact noR
            · exact left_refs
          · cases h
      · cases h
    · cases h
  | nilCheck x =>
    unfold core at h; simp only [hop] at h
    have hx := hent o.type x
    split at h
    · rename_i e1; rw [e1] at hx; exact fin h noR hx
    · exact fin h noR fun h => h
    · rename_i e1; rw [e1] at hx; exact fin h noR hx
    · cases h
  | binOp op t x y u =>
    unfold core at h; simp only [hop] at h
    split at h
    · rename_i p _ q _ _ _
      rw [binK_bind] at h
      cases hb : binK tt op t p q some with
      | none => rw [hb] at h; cases h
      | some r => rw [hb] at h; exact fin h noR fun h => h
    · cases h
  | unOp op t x =>
    unfold core at h; simp only [hop] at h
    split at h
    · rename_i p _ _
      rw [unK_bind] at h
      cases hb : unK op p some with
      | none => rw [hb] at h; cases h
      | some r => rw [hb] at h; exact fin h noR fun h => h
    · cases h
  | convert s d x =>
    unfold core at h; simp only [hop] at h
    split at h
    · split at h
      · exact fin h noR fun h => h
      · cases h
    · cases h
  | makeFunc f first caps =>
    cases f with
    | func f =>
      unfold core at h; simp only [hop] at h
      cases hb : first.isEmpty <;> rw [hb] at h
      · cases h
      · simp only [cond_true] at h
        split at h
        · rename_i cs hcs
          refine fin h noR ?_
          rintro ⟨off, hmem⟩
          have : ∀ (l : List Ent) (cs : List Cap), capsOf l = some cs → Cap.ref k off ∈ cs → ∃ e ∈ l, e.refs k := fun l => by
            induction l with
            | nil => intro cs hc hm; simp only [capsOf, Option.some.injEq] at hc; subst hc; simp at hm
            | cons e r ih =>
              intro cs hc hm
              simp only [capsOf] at hc
              split at hc
              · rename_i c cs' h1 h2
                simp only [Option.some.injEq] at hc
                subst hc
                rcases List.mem_cons.1 hm with hm | hm
                · subst hm
                  refine ⟨e, by simp, ?_⟩
                  cases e <;> simp [capOf] at h1
                  exact h1.1
                · obtain ⟨e', he', hr⟩ := ih cs' h2 hm
                  exact ⟨e', by simp [he'], hr⟩
              · cases hc
          obtain ⟨e, he, hr⟩ := this _ _ hcs hmem
          obtain ⟨x, _, rfl⟩ := List.mem_map.1 he
          exact hent 0 x hr
        · cases h
    | _ => unfold core at h; simp [hop] at h
  | makeSlice t l c =>
    unfold core at h; simp only [hop] at h
    split at h
    · rename_i ti p q _ _ _
      split at h
      · cases hb : decide (0 ≤ p) && decide (p ≤ q) && decide (q ≤ 2147483648) <;> rw [hb] at h
        · cases h
        · exact fin h noR fun h => h
      · cases h
    · cases h
  | slice t x lo hi mx =>
    unfold core at h; simp only [hop] at h
    unfold sliceK at h
    split at h
    · rename_i e xs own ti _ _
      cases hty : decide (ti.ty = .sl e) <;> rw [hty] at h
      · cases h
      · simp only [cond_true] at h
        split at h
        · cases hot : own && tr with
          | false => rw [hot] at h; exact fin h noR fun h => h
          | true =>
            rw [hot] at h
            simp only [cond_true] at h
            exact fin h left_refs fun h => h
        all_goals first
          | (cases h; done)
          | exact fin (cond_some h).2 noR fun h => h
          | exact fin (cond_some h).2 noR fun h => cutE_refs h
    · cases h
  | fieldAddr t x f =>
    unfold core at h; simp only [hop] at h
    unfold fieldAddrK at h
    split at h
    · rename_i ti _
      split at h
      · rename_i off ft fty _
        cases hb : Nat.beq fty.size 0 || !Nat.beq ti.len 0 || !ti.ty.agg <;> rw [hb] at h
        · simp only [cond_false] at h
          split at h
          · rename_i kk o' e1; have hx := hent 0 x; rw [e1] at hx; exact fin h noR hx
          · rename_i d _
            cases hdt : decide (d.t = ti.ty) <;> rw [hdt] at h
            · cases h
            · simp only [cond_true] at h
              split at h
              · exact fin h noR fun h => h
              · cases h
          · cases h
        · cases h
      · cases h
    · cases h
  | field t x f =>
    unfold core at h; simp only [hop] at h
    split at h
    · rename_i ti d own _ _
      split at h
      · rename_i off ft fty _
        cases hb : decide (d.t = ti.ty) && Nat.beq ti.len 0 && ti.ty.agg <;> rw [hb] at h
        · cases h
        · simp only [cond_true] at h
          split at h
          · exact fin h noR fun h => h
          · cases h
      · cases h
    · cases h
  | indexAddr t x ix =>
    unfold core at h; simp only [hop] at h
    unfold indexAddrK at h
    split at h
    · rename_i ti i e xs _ _ _ _
      cases hb : decide (ti.ty = .sl e) <;> rw [hb] at h
      · cases h
      · simp only [cond_true] at h
        cases hid : idx xs i with
        | none => rw [hid] at h; cases h
        | some y => rw [hid] at h; exact fin h noR fun h => h
    · rename_i ti i kk off _ _ e1
      split at h
      · rename_i e r _
        cases hb : decide (0 ≤ i) && Nat.blt i.toNat ti.len && !Nat.beq e.size 0 <;> rw [hb] at h
        · cases h
        · have hx := hent t x; rw [e1] at hx; exact fin h noR hx
      · cases h
    · rename_i ti i d _ _ _
      split at h
      · rename_i e r _
        cases hb : decide (0 ≤ i) && Nat.blt i.toNat ti.len && !Nat.beq e.size 0 && decide (d.t = ti.ty) <;> rw [hb] at h
        · cases h
        · simp only [cond_true] at h
          split at h
          · exact fin h noR fun h => h
          · cases h
      · cases h
    · cases h
  | extract x i =>
    unfold core at h; simp only [hop] at h
    split at h
    · split at h
      · exact fin h noR fun h => h
      · cases h
    · cases h
  | call c =>
    obtain ⟨callee, args, ts⟩ := c
    unfold core at h; simp only [hop] at h
    unfold callK at h
    cases callee with
    | builtin b =>
      simp only at h
      split at h
      · split at h
        · rename_i e xs _ ti _ _
          cases hty : decide (ti.ty = .sl e) <;> rw [hty] at h
          · cases h
          · exact fin h noR fun h => h
        · cases h
      · rename_i s x t u hxs hts
        unfold appendK at h
        split at h
        · rename_i e xs own d _ ti _ _ _
          cases hb : own && Nat.beq t u && decide (ti.ty = .sl e) <;> rw [hb] at h
          · cases h
          · simp only [cond_true] at h
            split at h
            · rename_i ys _
              cases hl : decide (xs.length + ys.length ≤ most) <;> rw [hl] at h
              · cases h
              · exact fin h left_refs fun h => h
            · cases h
        · rename_i e xs d _ ti _ _ _
          cases hb : Nat.beq t u && decide (ti.ty = .sl e) <;> rw [hb] at h
          · cases h
          · simp only [cond_true] at h
            split at h
            · rename_i ys _
              cases hl : Nat.blt 0 ys.length && decide (xs.length + ys.length ≤ most) <;> rw [hl] at h
              · cases h
              · exact fin h noR fun h => h
            · cases h
        · cases h
      · split at h
        · rename_i p _ q _ _ _
          rw [bestK_bind] at h
          cases hb : bestK true p q some with
          | none => rw [hb] at h; cases h
          | some r => rw [hb] at h; exact fin h noR fun h => h
        · cases h
      · split at h
        · rename_i p _ q _ _ _
          rw [bestK_bind] at h
          cases hb : bestK false p q some with
          | none => rw [hb] at h; cases h
          | some r => rw [hb] at h; exact fin h noR fun h => h
        · cases h
      · cases h
    | value f =>
      simp only at h
      split at h
      · split at h
        · obtain ⟨c, _, _, _, x, r, _, _, hput⟩ := callCon_some h
          refine fin hput noR ?_
          unfold resE
          split
          · exact fun h => h
          · exact fun h => h
        · cases h
      · cases h
    | invoke _ _ => simp at h
  | _ => unfold core at h; simp [hop] at h


/-- Memory need be alike only where the operands refer to it. -/
theorem core_congr2 {gv : Nat → Ent} {gb gb' : Nat → Option Box} (hb : ∀ s ∈ namesOf o, ∀ k, (gv s).refs k → gb k = gb' k) : core Γ tt tr gv gb o some = core Γ tt tr gv gb' o some := by
  have he : ∀ ty x, x ∈ o.op.operands.toList → ∀ k, (ent tt gv ty x).refs k → gb k = gb' k := fun ty x hx k hk => by
    cases x with
    | tmp t => exact hb t (List.mem_filterMap.2 ⟨.tmp t, hx, rfl⟩) k hk
    | const c =>
      exfalso
      revert hk
      show (constE tt ty c).refs k → False
      unfold constE
      split
      · exact fun h => h
      · exact fun h => h
      · exact fun h => h
      · split
        · split
          · exact fun h => h
          · exact fun h => h
        · exact fun h => h
      · exact fun h => h
    | func f => obtain ⟨_, h⟩ := hk; simp at h
    | global g => exact hk.elim
  by_cases hl : ∃ t x, o.op = .load t x
  · obtain ⟨t, x, hop⟩ := hl
    unfold core; simp only [hop]; unfold loadK
    have hx0 := he 0 x (by simp [hop, Op.operands])
    cases tt.look t with
    | none => rfl
    | some ti =>
      cases hx : ent tt gv 0 x with
      | ref kk off => rw [hx] at hx0; simp only; rw [hx0 kk rfl]
      | _ => rfl
  · by_cases hs : ∃ t x y, o.op = .store t x y
    · obtain ⟨t, x, y, hop⟩ := hs
      unfold core; simp only [hop]; unfold storeK
      have hx0 := he 0 x (by simp [hop, Op.operands])
      cases tt.look t with
      | none => rfl
      | some ti =>
        cases hx : ent tt gv 0 x with
        | ref kk off =>
          rw [hx] at hx0
          cases ent tt gv t y <;> cases o.dst <;> first | rfl | (simp only; rw [hx0 kk rfl])
        | _ => cases ent tt gv t y <;> cases o.dst <;> rfl
    · by_cases hc : ∃ c f, o.op = .call c ∧ c.callee = .value f
      · obtain ⟨⟨callee, args, ts⟩, f, hop, hcal⟩ := hc
        simp only at hcal
        subst hcal
        unfold core; simp only [hop]; unfold callK
        simp only
        have hargs : ∀ ty x, x ∈ args.toList → ∀ k, (ent tt gv ty x).refs k → gb k = gb' k := fun ty x hx => he ty x (by simp only [hop, Op.operands, Call.operands, Array.toList_append, List.mem_append]; exact .inr hx)
        have hrc : ∀ cs : List Cap, (∀ k off, Cap.ref k off ∈ cs → gb k = gb' k) → rcaps gb cs = rcaps gb' cs := fun cs => by
          induction cs with
          | nil => intro _; rfl
          | cons c r ih =>
            intro h
            simp only [rcaps]
            rw [ih fun k off hm => h k off (by simp [hm])]
            cases c with
            | ref k off => simp only [rcap]; rw [h k off (by simp)]
            | _ => rfl
        have hae : ∀ es : List Ent, (∀ e ∈ es, ∀ k, e.refs k → gb k = gb' k) → argsOf gb es = argsOf gb' es := fun es => by
          induction es with
          | nil => intro _; rfl
          | cons e r ih =>
            intro h
            simp only [argsOf]
            rw [ih fun e' he' => h e' (by simp [he'])]
            have h0 := h e (by simp)
            cases e with
            | ref k off => simp only [argOf]; rw [h0 k rfl]
            | clo f cs => simp only [argOf]; rw [hrc cs fun k off hm => h0 k ⟨off, hm⟩]
            | _ => rfl
        have hf := he 0 f (by simp [hop, Op.operands, Call.operands])
        have ha := hae ((zipTys args.toList ts.toList).map fun p => ent tt gv p.1 p.2) fun e hm k hk => by
          obtain ⟨p, hp, rfl⟩ := List.mem_map.1 hm
          exact hargs p.1 p.2 (by rw [← zipTys_map args.toList ts.toList]; exact List.mem_map.2 ⟨p, hp, rfl⟩) k hk
        rw [ha]
        cases hx : ent tt gv 0 f with
        | clo g caps => rw [hx] at hf; simp only; rw [hrc caps fun k off hm => hf k ⟨off, hm⟩]
        | _ => rfl
      · exact core_congr (fun _ _ => rfl) (.inr ⟨fun t x h => hl ⟨t, x, h⟩, fun t x y h => hs ⟨t, x, y, h⟩, fun c h f hf => hc ⟨c, f, h, hf⟩⟩)

end
end Go.Ev
