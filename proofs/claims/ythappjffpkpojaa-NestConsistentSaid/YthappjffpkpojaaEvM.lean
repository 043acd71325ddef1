/-
  THE EVALUATOR, PART M: the check of the type table against the program's own ('ttok_of').
-/
import Derived.Test.YthappjffpkpojaaEvL
namespace Go.Ev
open Go Go.RowKit
set_option linter.unusedVariables false
set_option linter.unusedSimpArgs false

def sameZ : Value → Value → Bool
  | .int k n, .int k' m => IntKind.same k k' && n == m
  | .bool a, .bool b => a == b
  | .string s, .string t => s.data.toList == t.data.toList
  | .slice none a b, .slice none c d => Nat.beq a c && Nat.beq b d
  | _, _ => false

theorem sameZ_eq {v u : Value} (h : sameZ v u = true) : v = u := by
  unfold sameZ at h
  split at h
  · simp only [Bool.and_eq_true, beq_iff_eq] at h
    rw [same_kind h.1, h.2]
  · simp only [beq_iff_eq] at h; rw [h]
  · rename_i s t
    simp only [beq_iff_eq] at h
    obtain ⟨⟨s⟩⟩ := s
    obtain ⟨⟨t⟩⟩ := t
    simp only at h
    rw [h]
  · simp only [Bool.and_eq_true] at h
    rw [Nat.eq_of_beq_eq_true h.1, Nat.eq_of_beq_eq_true h.2]
  · cases h

def zeroB : List Value → List Value → Bool
  | [], [] => true
  | v :: r, u :: s => sameZ v u && zeroB r s
  | _, _ => false

theorem zeroB_eq : ∀ {l m : List Value}, zeroB l m = true → l = m
  | [], [], _ => rfl
  | v :: r, u :: s, h => by
    simp only [zeroB, Bool.and_eq_true] at h
    rw [sameZ_eq h.1, zeroB_eq h.2]
  | [], _ :: _, h => by simp [zeroB] at h
  | _ :: _, [], h => by simp [zeroB] at h

/-! ### equality -/
def eqFs (P : Program) (rec : Nat → Ty → Bool) : List Field → Nat → Ty → Bool
  | [], _, .unit => true
  | f :: r, off, .pair a b => (f.name != "_") && Nat.beq f.offset off && ((P.info? f.type).map (·.size) == some a.size) && rec f.type a && eqFs P rec r (off + a.size) b
  | _, _, _ => false

def eqB (P : Program) : Nat → Nat → Ty → Bool
  | 0, _, _ => false
  | d + 1, t, ty => match ty, P.underlying t with
    | .int k, some (.int k') => IntKind.same k k'
    | .bool, some .bool => true
    | .str, some .string => true
    | .pair a b, some (.struct fs) => !P.stoodInHeld t && eqFs P (eqB P d) fs.toList 0 (.pair a b)
    | .unit, some (.struct fs) => !P.stoodInHeld t && eqFs P (eqB P d) fs.toList 0 .unit
    | _, _ => false

section
variable {P : Program} {tt : TT} {w : World} {I : Nat → Nat → Prop}

theorem eqB_agg {d t : Nat} {ty : Ty} (h : eqB P d t ty = true) : ∃ q, P.underlying t = some q ∧ (match q with | .struct _ | .array _ _ => true | _ => false) = ty.agg := by
  cases d with
  | zero => simp [eqB] at h
  | succ d =>
    simp only [eqB] at h
    split at h
    · rename_i hu; exact ⟨_, hu, rfl⟩
    · rename_i hu; exact ⟨_, hu, rfl⟩
    · rename_i hu; exact ⟨_, hu, rfl⟩
    · rename_i hu; exact ⟨_, hu, rfl⟩
    · rename_i hu; exact ⟨_, hu, rfl⟩
    · cases h

theorem run_part {t : Nat} {ty : Ty} (hu : ∃ q, P.underlying t = some q ∧ (match q with | .struct _ | .array _ _ => true | _ => false) = ty.agg) (hsz : (P.info? t).map (·.size) = some ty.size)
    {p c r : List Value} (hc : c.length = ty.size) : (part t (p ++ c ++ r).toArray p.length).run P w = .ok (valueOf ty c) w := by
  obtain ⟨q, h1, h2⟩ := hu
  have hagg : (isAgg t).run P w = .ok ty.agg w := by
    unfold isAgg
    rw [Sem.run_bind, run_underlying h1 w, Result.andThen_ok, ← h2]
    cases q <;> rfl
  unfold part
  rw [Sem.run_bind, hagg, Result.andThen_ok]
  unfold valueOf
  cases ha : ty.agg with
  | true =>
    simp only [if_true]
    have hs : (sizeOf t).run P w = .ok ty.size w := by
      cases hi : P.info? t with
      | none => simp [hi] at hsz
      | some i => simp only [hi, Option.map_some, Option.some.injEq] at hsz; simp [sizeOf, typeInfo, hi, hsz]
    rw [Sem.run_bind, hs, Result.andThen_ok]
    have : (p ++ c ++ r).toArray.extract p.length (p.length + ty.size) = c.toArray := by
      apply Array.ext'
      rw [← hc]
      simp
    rw [this]; rfl
  | false =>
    simp only [Bool.false_eq_true, if_false]
    have : ty.size = 1 := by cases ht : ty <;> simp_all [Ty.agg, Ty.size]
    rw [this] at hc
    obtain ⟨c1, rfl⟩ := List.length_eq_one_iff.1 hc
    have : (p ++ [c1] ++ r)[p.length]? = some c1 := by
      rw [List.append_assoc, List.getElem?_append_right (by omega)]; simp
    simp only [List.getElem?_toArray, this]
    rfl

theorem eqB_ok : ∀ (d t : Nat) (ty : Ty), eqB P d t ty = true → ∀ (D : Nat), d ≤ D → ∀ (w : World) (x y : ty.den) (vx vy : Value), RepV w I ty x vx → RepV w I ty y vy → (Op.equalIn D t vx vy).run P w = .ok (eqD ty x y) w := by
  intro d
  induction d with
  | zero => intro t ty h; simp [eqB] at h
  | succ d ih =>
    intro t ty h D hD w x y vx vy hx hy
    obtain ⟨D, rfl⟩ : ∃ E, D = E + 1 := ⟨D - 1, by omega⟩
    have fields : ∀ (fs : List Field) (p q : List Value) (off : Nat) (ty : Ty) (x y : ty.den) (cx cy : List Value), eqFs P (eqB P d) fs off ty = true → p.length = off → q.length = off → RepC w I ty x cx → RepC w I ty y cy →
        (Op.eqFields D (p ++ cx).toArray (q ++ cy).toArray fs).run P w = .ok (eqD ty x y) w := by
      intro fs
      induction fs with
      | nil =>
        intro p q off ty x y cx cy hf hp hq hcx hcy
        cases ty <;> simp [eqFs] at hf
        rfl
      | cons f r ihf =>
        intro p q off ty x y cx cy hf hp hq hcx hcy
        cases ty with
        | pair a b =>
          simp only [eqFs, Bool.and_eq_true, bne_iff_ne, ne_eq, beq_iff_eq] at hf
          obtain ⟨⟨⟨⟨f1, f2⟩, f3⟩, f4⟩, f5⟩ := hf
          have f2 := Nat.eq_of_beq_eq_true f2
          obtain ⟨ca, cb, h1, h2, rfl⟩ := hcx
          obtain ⟨da, db, k1, k2, rfl⟩ := hcy
          have e1 := run_part (P := P) (w := w) (p := p) (r := cb) (eqB_agg f4) f3 h1.length
          have e2 := run_part (P := P) (w := w) (p := q) (r := db) (eqB_agg f4) f3 k1.length
          rw [hp, ← f2, List.append_assoc] at e1
          rw [hq, ← f2, List.append_assoc] at e2
          have e3 := ih f.type a f4 D (by omega) w x.1 y.1 _ _ (repV_of h1) (repV_of k1)
          unfold Op.eqFields
          rw [if_pos f1]
          simp only [Sem.run_bind, e1, e2, e3, Result.andThen_ok]
          cases hab : eqD a x.1 y.1 with
          | false => simp [eqD, hab]
          | true =>
            simp only [Bool.not_true, Bool.false_eq_true, if_false]
            have := ihf (p ++ ca) (q ++ da) (off + a.size) b x.2 y.2 cb db f5 (by rw [List.length_append, hp, h1.length]) (by rw [List.length_append, hq, k1.length]) h2 k2
            rw [List.append_assoc, List.append_assoc] at this
            rw [this]
            simp [eqD, hab]
        | _ => simp [eqFs] at hf
    simp only [eqB] at h
    split at h
    · rename_i k k' hu
      have := same_kind h
      subst this
      have e1 := repV_int hx
      have e2 := repV_int hy
      subst e1; subst e2
      exact run_equalIn_int w D t k k x y hu
    · rename_i hu
      have e1 := repV_bool hx
      have e2 := repV_bool hy
      subst e1; subst e2
      exact run_equalIn_bool' w D t x y hu
    · rename_i hu
      have e1 := repV_str hx
      have e2 := repV_str hy
      subst e1; subst e2
      exact run_equalIn_string w D t x y hu
    · rename_i a b fs hu
      simp only [Bool.and_eq_true, Bool.not_eq_true'] at h
      obtain ⟨cx, h1, h2⟩ := hx
      obtain ⟨cy, h3, h4⟩ := hy
      have h2 : vx = .agg cx.toArray := by rcases h2 with ⟨_, h⟩ | ⟨h, _⟩ <;> first | exact h | simp [Ty.agg] at h
      have h4 : vy = .agg cy.toArray := by rcases h4 with ⟨_, h⟩ | ⟨h, _⟩ <;> first | exact h | simp [Ty.agg] at h
      subst h2; subst h4
      have hfo : P.fieldsOf t = fs := by unfold Program.fieldsOf; rw [hu]
      rw [run_equalIn_struct w D t _ _ (by rw [hfo]; exact hu) h.1, hfo]
      exact fields fs.toList [] [] 0 (.pair a b) x y cx cy h.2 rfl rfl h1 h3
    · rename_i fs hu
      simp only [Bool.and_eq_true, Bool.not_eq_true'] at h
      obtain ⟨cx, h1, h2⟩ := hx
      obtain ⟨cy, h3, h4⟩ := hy
      have h2 : vx = .agg cx.toArray := by rcases h2 with ⟨_, h⟩ | ⟨h, _⟩ <;> first | exact h | simp [Ty.agg] at h
      have h4 : vy = .agg cy.toArray := by rcases h4 with ⟨_, h⟩ | ⟨h, _⟩ <;> first | exact h | simp [Ty.agg] at h
      subst h2; subst h4
      have hfo : P.fieldsOf t = fs := by unfold Program.fieldsOf; rw [hu]
      rw [run_equalIn_struct w D t _ _ (by rw [hfo]; exact hu) h.1, hfo]
      exact fields fs.toList [] [] 0 .unit x y cx cy h.2 rfl rfl h1 h3
    · cases h

/-! ### the table -/
def fldsB (tt : TT) : List (Nat × Nat × Ty) → List Field → Bool
  | [], [] => true
  | (off, ft, fty) :: r, f :: fs => Nat.beq f.offset off && Nat.beq f.type ft && (match tt.look ft with | some tf => decide (tf.ty = fty) | none => false) && fldsB tt r fs
  | _, _ => false

theorem fldsB_ok : ∀ {l : List (Nat × Nat × Ty)} {fs : List Field}, fldsB tt l fs = true → l.length = fs.length ∧ ∀ (j : Nat) off ft fty, l[j]? = some (off, ft, fty) → ∃ f, fs[j]? = some f ∧ f.offset = off ∧ f.type = ft ∧ ∃ tf, tt.look ft = some tf ∧ tf.ty = fty
  | [], [], _ => ⟨rfl, fun j _ _ _ h => by simp at h⟩
  | (off, ft, fty) :: r, f :: fs, h => by
    simp only [fldsB, Bool.and_eq_true] at h
    obtain ⟨⟨⟨h1, h2⟩, h3⟩, h4⟩ := h
    obtain ⟨e1, e2⟩ := fldsB_ok h4
    refine ⟨by simp [e1], fun j o t ty hj => ?_⟩
    cases j with
    | zero =>
      simp only [List.getElem?_cons_zero, Option.some.injEq, Prod.mk.injEq] at hj
      obtain ⟨rfl, rfl, rfl⟩ := hj
      refine ⟨f, by simp, Nat.eq_of_beq_eq_true h1, Nat.eq_of_beq_eq_true h2, ?_⟩
      split at h3
      · rename_i tf htf; exact ⟨tf, htf, of_decide_eq_true h3⟩
      · cases h3
    | succ j => simpa using e2 j o t ty (by simpa using hj)
  | [], _ :: _, h => by simp [fldsB] at h
  | _ :: _, [], h => by simp [fldsB] at h

def arrB (el sz : Nat) (e : Ty) : Nat → List (Nat × Nat × Ty) → Bool
  | _, [] => true
  | j, (off, ft, fty) :: r => Nat.beq off (j * sz) && Nat.beq ft el && decide (fty = e) && arrB el sz e (j + 1) r

theorem arrB_ok {el sz : Nat} {e : Ty} : ∀ {l : List (Nat × Nat × Ty)} {i : Nat}, arrB el sz e i l = true → ∀ (j : Nat) off ft fty, l[j]? = some (off, ft, fty) → off = (i + j) * sz ∧ ft = el ∧ fty = e
  | [], i, _, j, _, _, _, h => by simp at h
  | (o, f, t) :: r, i, h, j, off, ft, fty, hj => by
    simp only [arrB, Bool.and_eq_true, decide_eq_true_eq] at h
    obtain ⟨⟨⟨h1, h2⟩, h3⟩, h4⟩ := h
    cases j with
    | zero =>
      simp only [List.getElem?_cons_zero, Option.some.injEq, Prod.mk.injEq] at hj
      obtain ⟨rfl, rfl, rfl⟩ := hj
      exact ⟨by simpa using Nat.eq_of_beq_eq_true h1, Nat.eq_of_beq_eq_true h2, h3⟩
    | succ j =>
      have := arrB_ok h4 j off ft fty (by simpa using hj)
      rw [show i + (j + 1) = i + 1 + j by omega]
      exact this

def descB (P : Program) (tt : TT) (t : Nat) (ti : TI) : Bool := match ti.ty, P.underlying t with
  | .int k, some (.int k') => IntKind.same k k'
  | .bool, some .bool => true
  | .str, some .string => true
  | .sl e, some (.slice el) => Nat.beq el ti.elem && (match tt.look el with | some te => decide (te.ty = e) | none => false)
  | .unit, some (.struct fs) => Nat.beq ti.len 0 && fldsB tt ti.flds fs.toList
  | .pair _ _, some (.struct fs) => Nat.beq ti.len 0 && fldsB tt ti.flds fs.toList
  | .pair e _, some (.array m el) => Nat.beq m ti.len && !Nat.beq m 0 && Nat.beq el ti.elem && (match tt.look el with | some te => decide (te.ty = e) && arrB el e.size e 0 ti.flds | none => false)
  | _, _ => false

def eqokB (P : Program) (t : Nat) (ti : TI) : Bool := match ti.ty with
  | .int _ => true
  | .str => true
  | .bool => eqB P 2 t .bool
  | ty => eqB P 12 t ty && !P.eqGuardType P.depth t

def tiB (P : Program) (tt : TT) (t : Nat) (ti : TI) : Bool := (match P.info? t with
  | none => false
  | some i => Nat.beq i.size ti.ty.size && Nat.beq i.bytes ti.bytes && Nat.ble ti.bytes 65536 && (match i.zero with | some z => zeroB z.cells.toList (zeroC ti.ty) | none => false)) &&
  descB P tt t ti && (!ti.eqok || !ti.ty.flat || eqokB P t ti)

theorem tiB_ok {t : Nat} {ti : TI} (h : tiB P tt t ti = true) : TIok P tt t ti := by
  simp only [tiB, Bool.and_eq_true] at h
  obtain ⟨⟨h1, h2⟩, h3⟩ := h
  cases hi : P.info? t with
  | none => rw [hi] at h1; cases h1
  | some i =>
    rw [hi] at h1
    simp only [Bool.and_eq_true] at h1
    obtain ⟨⟨⟨g1, g2⟩, g3⟩, g4⟩ := h1
    cases hz : i.zero with
    | none => rw [hz] at g4; cases g4
    | some z =>
      rw [hz] at g4
      have hzc : z.cells = (zeroC ti.ty).toArray := by
        apply Array.ext'
        rw [zeroB_eq g4]
      refine ⟨⟨i, z, hi, Nat.eq_of_beq_eq_true g1, Nat.eq_of_beq_eq_true g2, hz, hzc⟩, by simpa [Nat.ble_eq] using g3, ?_, ?_⟩
      · unfold descB at h2
        split at h2
        · rename_i k k' ht hu
          rw [ht]; have := same_kind h2; subst this; exact hu
        · rename_i ht hu; rw [ht]; exact hu
        · rename_i ht hu; rw [ht]; exact hu
        · rename_i e el ht hu
          rw [ht]
          simp only [Bool.and_eq_true] at h2
          have := Nat.eq_of_beq_eq_true h2.1
          subst this
          refine ⟨hu, ?_⟩
          have h5 := h2.2
          split at h5
          · rename_i te hte; exact ⟨te, hte, of_decide_eq_true h5⟩
          · cases h5
        · rename_i fs ht hu
          rw [ht]
          simp only [Bool.and_eq_true] at h2
          obtain ⟨e1, e2⟩ := fldsB_ok h2.2
          exact .inl ⟨Nat.eq_of_beq_eq_true h2.1, fs, hu, by rw [e1]; simp, fun j off ft fty hj => by simpa using e2 j off ft fty hj⟩
        · rename_i fs ht hu
          rw [ht]
          simp only [Bool.and_eq_true] at h2
          obtain ⟨e1, e2⟩ := fldsB_ok h2.2
          exact .inl ⟨Nat.eq_of_beq_eq_true h2.1, fs, hu, by rw [e1]; simp, fun j off ft fty hj => by simpa using e2 j off ft fty hj⟩
        · rename_i e r m el ht hu
          rw [ht]
          simp only [Bool.and_eq_true, Bool.not_eq_true'] at h2
          obtain ⟨⟨⟨k1, k2⟩, k3⟩, k4⟩ := h2
          have k1 := Nat.eq_of_beq_eq_true k1
          have k3 := Nat.eq_of_beq_eq_true k3
          split at k4
          · rename_i te hte
            simp only [Bool.and_eq_true, decide_eq_true_eq] at k4
            refine .inr ⟨by rw [← k1]; intro e0; rw [e0] at k2; simp at k2, te, by rw [← k1, ← k3]; exact hu, by rw [← k3]; exact hte, fun e' r' h => by
              simp only [Ty.pair.injEq] at h; rw [k4.1]; exact h.1, fun j off ft fty hj => ?_⟩
            obtain ⟨e1, e2, e3⟩ := arrB_ok k4.2 j off ft fty hj
            rw [k4.1]
            exact ⟨by rw [e1]; simp, by rw [e2, k3], e3⟩
          · cases k4
        · cases h2
      · intro heq hflat w I x y vx vy xo yo op hop hnk hns hx hy
        rw [heq, hflat] at h3
        simp only [Bool.not_true, Bool.false_or] at h3
        unfold eqokB at h3
        have fin : ∀ (d : Nat) {vx vy : Value} (x y : ti.ty.den), eqB P d t ti.ty = true → d ≤ 10000 → RepV w I ti.ty x vx → RepV w I ti.ty y vy → (∀ k a, vx ≠ .int k a) → (∀ s, vx ≠ .string s) → (∀ c, vx = .agg c → ∃ c', vy = .agg c') → (∀ b, vx = .bool b → ∃ b', vy = .bool b') → ((∃ c, vx = .agg c) ∨ ∃ b, vx = .bool b) → (eqGuard op t xo yo vx vy).run P w = .ok () w →
            (do eqGuard op t xo yo vx vy; binOp op t vx vy : Sem Value).run P w = .ok (.bool (if op = .eql then eqD ti.ty x y else !eqD ti.ty x y)) w := fun d vx vy x y he hd hx hy hi hs ha hb hor hg => by
          have hrun := eqB_ok d t ti.ty he 10000 hd w x y vx vy hx hy
          rw [Sem.run_bind, hg, Result.andThen_ok]
          have hbin : ∀ q, q = BinOp.eql ∨ q = .neq → (binOp q t vx vy).run P w = .ok (.bool (if q = .eql then eqD ti.ty x y else !eqD ti.ty x y)) w := fun q hq => by
            have e10 : Op.maxDepth = 10000 := rfl
            rcases hor with ⟨c, rfl⟩ | ⟨b, rfl⟩
            · obtain ⟨c', rfl⟩ := ha c rfl
              rcases hq with rfl | rfl <;> simp [binOp, Op.equal, e10, hrun]
            · obtain ⟨b', rfl⟩ := hb b rfl
              rcases hq with rfl | rfl <;> simp [binOp, Op.equal, e10, hrun]
          exact hbin op hop
        obtain ⟨cx, h1, h1'⟩ := id hx
        obtain ⟨cy, h2', h2''⟩ := id hy
        split at h3
        · rename_i k hk; exact absurd hk (hnk k)
        · rename_i hk; exact absurd hk hns
        · rename_i hk
          have ex : ∃ b, vx = .bool b := by
            rcases h1' with ⟨h, _⟩ | ⟨_, rfl⟩
            · rw [hk] at h; simp [Ty.agg] at h
            · have : ∀ (t : Ty) (x : t.den), t = .bool → RepC w I t x [vx] → ∃ b, vx = .bool b := fun t x ht hc => by
                subst ht; simp only [RepC, List.cons.injEq, and_true] at hc; exact ⟨_, hc⟩
              exact this _ x hk h1
          have ey : ∃ b, vy = .bool b := by
            rcases h2'' with ⟨h, _⟩ | ⟨_, rfl⟩
            · rw [hk] at h; simp [Ty.agg] at h
            · have : ∀ (t : Ty) (x : t.den), t = .bool → RepC w I t x [vy] → ∃ b, vy = .bool b := fun t x ht hc => by
                subst ht; simp only [RepC, List.cons.injEq, and_true] at hc; exact ⟨_, hc⟩
              exact this _ y hk h2'
          obtain ⟨b, rfl⟩ := ex
          obtain ⟨b', rfl⟩ := ey
          exact fin 2 x y (by rw [hk]; exact h3) (by decide) hx hy (by simp) (by simp) (by simp) (fun _ _ => ⟨_, rfl⟩) (.inr ⟨_, rfl⟩) (by rw [eqGuard_at_bool]; rfl)
        · rename_i hne1 hne2 hne3
          simp only [Bool.and_eq_true, Bool.not_eq_true'] at h3
          have hag : ti.ty.agg = true := by
            cases ht : ti.ty <;> simp_all [Ty.agg, Ty.flat]
          have ex : vx = .agg cx.toArray := by rcases h1' with ⟨_, h⟩ | ⟨h, _⟩ <;> first | exact h | (rw [hag] at h; cases h)
          have ey : vy = .agg cy.toArray := by rcases h2'' with ⟨_, h⟩ | ⟨h, _⟩ <;> first | exact h | (rw [hag] at h; cases h)
          subst ex; subst ey
          exact fin 12 x y h3.1 (by decide) hx hy (by simp) (by simp) (fun _ _ => ⟨_, rfl⟩) (by simp) (.inl ⟨_, rfl⟩) (run_eqGuard_agg w op t xo yo _ _ h3.2)

def ttB (P : Program) (tt : TT) : Bool := tt.all fun p => tiB P tt p.1 p.2

theorem look_mem : ∀ {l : TT} {t : Nat} {ti : TI}, TT.look l t = some ti → (t, ti) ∈ l
  | [], t, ti, h => by simp [TT.look] at h
  | (k, e) :: r, t, ti, h => by
    simp only [TT.look] at h
    cases hb : Nat.beq k t with
    | true =>
      rw [hb] at h
      simp only [cond_true, Option.some.injEq] at h
      have := Nat.eq_of_beq_eq_true hb
      subst this; subst h; simp
    | false => rw [hb] at h; exact List.mem_cons_of_mem _ (look_mem h)

theorem ttok_of (h : ttB P tt = true) : TTok P tt := fun t ti hl => by
  unfold ttB at h
  rw [List.all_eq_true] at h
  exact tiB_ok (h (t, ti) (look_mem hl))

end

theorem noneS {P : Program} {J : World → Prop} : ∀ c ∈ ([] : List Con), SoundC P J c := fun _ h => by cases h
theorem consS {P : Program} {J : World → Prop} {c : Con} {l : List Con} (h : SoundC P J c) (hs : ∀ x ∈ l, SoundC P J x) : ∀ x ∈ c :: l, SoundC P J x := fun x hx => by
  rcases List.mem_cons.1 hx with rfl | hx
  · exact h
  · exact hs x hx

/-- The rounds that are granted to a loop. -/
def BIG : Nat := 18446744073709551616
end Go.Ev
