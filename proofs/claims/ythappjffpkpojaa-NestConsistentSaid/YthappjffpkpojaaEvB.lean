/-
  THE EVALUATOR, PART B: what it means that memory holds a value; the coloring of cells by who may write them; that one operation of the text does to the world what 'core' tells.
-/
import Derived.Test.YthappjffpkpojaaEvA
import Derived.Laws.AppendOwn
import Derived.Laws.MakeOwn
import Derived.Laws.IdiomCopy
import Derived.Laws.StructEq
import Derived.Laws.Slices
import Derived.Laws.Build
import Derived.WideLaws
namespace Go.Ev
open Go

/-! ## Reading -/
def RepL {α : Type} (rep : α → List Value → Prop) : List α → List Value → Prop
  | [], cs => cs = []
  | x :: r, cs => ∃ c1 c2, rep x c1 ∧ RepL rep r c2 ∧ cs = c1 ++ c2

def RepC (w : World) (I : Nat → Nat → Prop) : (t : Ty) → t.den → List Value → Prop
  | .int k, n, cs => cs = [.int k n]
  | .bool, b, cs => cs = [.bool b]
  | .str, s, cs => cs = [.string s]
  | .sl e, xs, cs => ∃ v, cs = [v] ∧ ((v = .slice none 0 0 ∧ xs = []) ∨ ∃ b o cap es, v = .slice (some ⟨b, o, none⟩) xs.length cap ∧ xs.length ≤ cap ∧
      RepL (RepC w I e) xs es ∧ w.rangeAt b o es ∧ ∀ j, j < es.length → I b (o + j))
  | .unit, _, cs => cs = []
  | .pair a b, x, cs => ∃ ca cb, RepC w I a x.1 ca ∧ RepC w I b x.2 cb ∧ cs = ca ++ cb

def RepV (w : World) (I : Nat → Nat → Prop) (t : Ty) (x : t.den) (v : Value) : Prop :=
  ∃ cs, RepC w I t x cs ∧ ((t.agg = true ∧ v = .agg cs.toArray) ∨ (t.agg = false ∧ cs = [v]))

section
variable {w w' : World} {I I' : Nat → Nat → Prop}

theorem RepL.length {α : Type} {rep : α → List Value → Prop} {n : Nat} (h : ∀ x cs, rep x cs → cs.length = n) : ∀ {xs : List α} {cs : List Value}, RepL rep xs cs → cs.length = xs.length * n
  | [], _, e => by simp only [RepL] at e; subst e; simp
  | x :: r, _, e => by
    obtain ⟨c1, c2, h1, h2, rfl⟩ := e
    rw [List.length_append, h x c1 h1, RepL.length h h2, List.length_cons, Nat.add_mul, Nat.one_mul, Nat.add_comm]

theorem RepC.length : ∀ {t : Ty} {x : t.den} {cs : List Value}, RepC w I t x cs → cs.length = t.size
  | .int _, _, _, h | .bool, _, _, h | .str, _, _, h | .unit, _, _, h => by simp only [RepC] at h; subst h; rfl
  | .sl _, _, _, ⟨_, h, _⟩ => by subst h; rfl
  | .pair _ _, _, _, ⟨_, _, h1, h2, h⟩ => by subst h; rw [List.length_append, h1.length, h2.length]; rfl

theorem RepL.one {α : Type} {rep : α → List Value → Prop} (h : ∀ x cs, rep x cs → ∀ v ∈ cs, v.oneCell' = true) : ∀ {xs : List α} {cs : List Value}, RepL rep xs cs → ∀ v ∈ cs, v.oneCell' = true
  | [], _, e => by simp only [RepL] at e; subst e; simp
  | x :: r, _, e => by
    obtain ⟨c1, c2, h1, h2, rfl⟩ := e
    intro v hv
    rcases List.mem_append.1 hv with hv | hv
    · exact h x c1 h1 v hv
    · exact RepL.one h h2 v hv

theorem RepC.one : ∀ {t : Ty} {x : t.den} {cs : List Value}, RepC w I t x cs → ∀ v ∈ cs, v.oneCell' = true
  | .int _, _, _, h | .bool, _, _, h | .str, _, _, h | .unit, _, _, h => by simp only [RepC] at h; subst h; simp [Value.oneCell']
  | .sl _, _, _, ⟨v, h, r⟩ => by
    subst h
    rcases r with ⟨rfl, _⟩ | ⟨_, _, _, _, rfl, _⟩ <;> simp [Value.oneCell']
  | .pair _ _, _, _, ⟨_, _, h1, h2, h⟩ => by
    subst h
    intro v hv
    rcases List.mem_append.1 hv with hv | hv
    · exact h1.one v hv
    · exact h2.one v hv

theorem RepL.imp {α : Type} {rep rep' : α → List Value → Prop} (h : ∀ x cs, rep x cs → rep' x cs) : ∀ {xs : List α} {cs : List Value}, RepL rep xs cs → RepL rep' xs cs
  | [], _, e => e
  | x :: r, _, e => by
    obtain ⟨c1, c2, h1, h2, rfl⟩ := e
    exact ⟨c1, c2, h x c1 h1, RepL.imp h h2, rfl⟩

/-- What is read stays read where its cells stay. -/
theorem RepC.mono (h : ∀ b o, I b o → (w.cell? ⟨b, o, none⟩).isSome = true → w'.cell? ⟨b, o, none⟩ = w.cell? ⟨b, o, none⟩ ∧ I' b o) :
    ∀ {t : Ty} {x : t.den} {cs : List Value}, RepC w I t x cs → RepC w' I' t x cs
  | .int _, _, _, e | .bool, _, _, e | .str, _, _, e | .unit, _, _, e => e
  | .sl e, xs, _, ⟨v, h1, h2⟩ => by
    refine ⟨v, h1, ?_⟩
    rcases h2 with h2 | ⟨b, o, cap, es, hv, hc, hl, hr, hi⟩
    · exact .inl h2
    · have hs : ∀ j, j < es.length → (w.cell? ⟨b, o + j, none⟩).isSome = true := fun j hj => by rw [hr j es[j] (by simp [hj])]; rfl
      refine .inr ⟨b, o, cap, es, hv, hc, RepL.imp (fun x cs hx => RepC.mono h hx) hl, fun j u hu => ?_, fun j hj => (h b _ (hi j hj) (hs j hj)).2⟩
      have hj : j < es.length := (List.getElem?_eq_some_iff.1 hu).1
      rw [(h b _ (hi j hj) (hs j hj)).1]
      exact hr j u hu
  | .pair _ _, _, _, ⟨ca, cb, h1, h2, h3⟩ => ⟨ca, cb, h1.mono h, h2.mono h, h3⟩

theorem RepV.mono (h : ∀ b o, I b o → (w.cell? ⟨b, o, none⟩).isSome = true → w'.cell? ⟨b, o, none⟩ = w.cell? ⟨b, o, none⟩ ∧ I' b o)
    {t : Ty} {x : t.den} {v : Value} : RepV w I t x v → RepV w' I' t x v
  | ⟨cs, h1, h2⟩ => ⟨cs, h1.mono h, h2⟩

theorem RepL.append {α : Type} {rep : α → List Value → Prop} : ∀ {xs ys : List α} {cs ds : List Value}, RepL rep xs cs → RepL rep ys ds → RepL rep (xs ++ ys) (cs ++ ds)
  | [], _, _, _, e, f => by simp only [RepL] at e; subst e; simpa using f
  | x :: r, _, _, _, e, f => by
    obtain ⟨c1, c2, h1, h2, rfl⟩ := e
    exact ⟨c1, _, h1, RepL.append h2 f, by simp⟩

theorem RepL.split {α : Type} {rep : α → List Value → Prop} : ∀ {xs ys : List α} {cs : List Value}, RepL rep (xs ++ ys) cs → ∃ c d, RepL rep xs c ∧ RepL rep ys d ∧ cs = c ++ d
  | [], _, cs, e => ⟨[], cs, rfl, by simpa using e, by simp⟩
  | x :: r, _, _, e => by
    obtain ⟨c1, c2, h1, h2, rfl⟩ := e
    obtain ⟨c, d, h3, h4, rfl⟩ := RepL.split h2
    exact ⟨c1 ++ c, d, ⟨c1, c, h1, h3, rfl⟩, h4, by simp⟩

theorem RepL.nil_iff {α : Type} {rep : α → List Value → Prop} {cs : List Value} : RepL rep [] cs ↔ cs = [] := Iff.rfl

/-- Element number i, and where it lies. -/
theorem RepL.get {α : Type} {rep : α → List Value → Prop} {n : Nat} (hn : ∀ x cs, rep x cs → cs.length = n) {xs : List α} {cs : List Value} (h : RepL rep xs cs) {i : Nat} {x : α} (hi : xs[i]? = some x) :
    ∃ c a d, rep x c ∧ cs = a ++ c ++ d ∧ a.length = i * n := by
  have hlt : i < xs.length := (List.getElem?_eq_some_iff.1 hi).1
  have hx : xs[i] = x := (List.getElem?_eq_some_iff.1 hi).2
  have e : xs = xs.take i ++ (x :: xs.drop (i + 1)) := by
    rw [← hx]; simp
  rw [e] at h
  obtain ⟨a, r, h1, ⟨c, d, h2, h3, rfl⟩, rfl⟩ := RepL.split h
  refine ⟨c, a, d, h2, by simp, ?_⟩
  rw [RepL.length hn h1, List.length_take]
  congr 1; omega

theorem rangeAt_mid {b o : Nat} {a c d : List Value} (h : w.rangeAt b o (a ++ c ++ d)) : w.rangeAt b (o + a.length) c := fun j v hv => by
  have hj : j < c.length := (List.getElem?_eq_some_iff.1 hv).1
  have := h (a.length + j) v (by rw [List.append_assoc, List.getElem?_append_right (by omega)]; simp [List.getElem?_append_left hj, hv])
  rwa [show o + a.length + j = o + (a.length + j) by omega]

theorem RepC.zero : ∀ (t : Ty), RepC w I t (zeroD t) (zeroC t)
  | .int _ | .bool | .str | .unit => rfl
  | .sl _ => ⟨_, rfl, .inl ⟨rfl, rfl⟩⟩
  | .pair a b => ⟨_, _, RepC.zero a, RepC.zero b, rfl⟩

theorem RepL.replicate {α : Type} {rep : α → List Value → Prop} {x : α} {c : List Value} (h : rep x c) : ∀ n, RepL rep (List.replicate n x) (List.replicate n c).flatten
  | 0 => rfl
  | n + 1 => ⟨c, _, h, RepL.replicate h n, by simp [List.replicate_succ]⟩

/-! ### Parts -/
theorem RepC.proj (u : Ty) : ∀ {t : Ty} {x : t.den} {off : Nat} {y : u.den} {cs : List Value}, proj u t x off = some y → RepC w I t x cs →
    ∃ a c d, cs = a ++ c ++ d ∧ a.length = off ∧ RepC w I u y c
  | .pair p q, x, off, y, cs, h, hr => by
    unfold Ev.proj at h
    split at h
    · rename_i hc
      obtain ⟨rfl, hc⟩ := hc
      subst hc
      simp only [Option.some.injEq] at h
      subst h
      exact ⟨[], cs, [], by simp, rfl, hr⟩
    · obtain ⟨ca, cb, h1, h2, rfl⟩ := hr
      have hl := h1.length
      cases hb : Nat.blt off p.size with
      | true =>
        rw [hb] at h
        obtain ⟨a, c, d, rfl, ha, hc⟩ := RepC.proj u (t := p) h h1
        exact ⟨a, c, d ++ cb, by simp, ha, hc⟩
      | false =>
        rw [hb] at h
        have hge : ¬ off < p.size := fun hh => by rw [← Bool.not_eq_true] at hb; exact hb (by simpa [Nat.blt_eq] using hh)
        obtain ⟨a, c, d, rfl, ha, hc⟩ := RepC.proj u (t := q) h h2
        exact ⟨ca ++ a, c, d, by simp, by rw [List.length_append, ha, hl]; omega, hc⟩
  | .int _, x, off, y, cs, h, hr | .bool, x, off, y, cs, h, hr | .str, x, off, y, cs, h, hr | .sl _, x, off, y, cs, h, hr | .unit, x, off, y, cs, h, hr => by
    unfold Ev.proj at h
    split at h
    · rename_i hc
      obtain ⟨rfl, hc⟩ := hc
      subst hc
      simp only [Option.some.injEq] at h
      first | subst h | skip
      exact ⟨[], cs, [], by simp, rfl, hr⟩
    · cases h

theorem RepC.upd (u : Ty) (y : u.den) {ys : List Value} (hy : RepC w I u y ys) : ∀ {t : Ty} {x z : t.den} {off : Nat} {cs : List Value}, upd u y t x off = some z → RepC w I t x cs →
    ∃ a c d, cs = a ++ c ++ d ∧ a.length = off ∧ c.length = ys.length ∧ RepC w I t z (a ++ ys ++ d)
  | .pair p q, x, z, off, cs, h, hr => by
    unfold Ev.upd at h
    split at h
    · rename_i hc
      obtain ⟨rfl, hc⟩ := hc
      subst hc
      simp only [Option.some.injEq] at h
      subst h
      exact ⟨[], cs, [], by simp, rfl, by rw [hr.length, hy.length], by simpa using hy⟩
    · obtain ⟨ca, cb, h1, h2, rfl⟩ := hr
      have hl := h1.length
      cases hb : Nat.blt off p.size with
      | true =>
        rw [hb] at h
        simp only [cond_true] at h
        cases hu : Ev.upd u y p x.1 off with
        | none => simp [hu] at h
        | some z1 =>
          simp only [hu, Option.bind_some, Option.some.injEq] at h
          subst h
          obtain ⟨a, c, d, rfl, ha, hcl, hc⟩ := RepC.upd u y hy (t := p) hu h1
          exact ⟨a, c, d ++ cb, by simp, ha, hcl, _, cb, hc, h2, by simp⟩
      | false =>
        rw [hb] at h
        simp only [cond_false] at h
        have hge : ¬ off < p.size := fun hh => by rw [← Bool.not_eq_true] at hb; exact hb (by simpa [Nat.blt_eq] using hh)
        cases hu : Ev.upd u y q x.2 (off - p.size) with
        | none => simp [hu] at h
        | some z1 =>
          simp only [hu, Option.bind_some, Option.some.injEq] at h
          subst h
          obtain ⟨a, c, d, rfl, ha, hcl, hc⟩ := RepC.upd u y hy (t := q) hu h2
          exact ⟨ca ++ a, c, d, by simp, by rw [List.length_append, ha, hl]; omega, hcl, ca, _, h1, hc, by simp⟩
  | .int _, x, z, off, cs, h, hr | .bool, x, z, off, cs, h, hr | .str, x, z, off, cs, h, hr | .sl _, x, z, off, cs, h, hr | .unit, x, z, off, cs, h, hr => by
    unfold Ev.upd at h
    split at h
    · rename_i hc
      obtain ⟨rfl, hc⟩ := hc
      subst hc
      simp only [Option.some.injEq] at h
      first | subst h | skip
      exact ⟨[], cs, [], by simp, rfl, by rw [hr.length, hy.length], by simpa using hy⟩
    · cases h

/-- The type of the cell at a place. -/
def leafAt : Ty → Nat → Option Ty
  | .pair a b, off => bif Nat.blt off a.size then leafAt a off else leafAt b (off - a.size)
  | .unit, _ => none
  | t, off => bif Nat.beq off 0 then some t else none

theorem leafAt_proj (e : Ty) : ∀ {t : Ty} {x : t.den} {off : Nat} {y : (Ty.sl e).den}, proj (.sl e) t x off = some y → leafAt t off = some (.sl e)
  | .pair p q, x, off, y, h => by
    unfold proj at h
    split at h
    · rename_i hc; exact absurd hc.2 (by simp)
    · unfold leafAt
      cases hb : Nat.blt off p.size with
      | true => rw [hb] at h; exact leafAt_proj e (t := p) h
      | false => rw [hb] at h; exact leafAt_proj e (t := q) h
  | .int _, x, off, y, h | .bool, x, off, y, h | .str, x, off, y, h | .unit, x, off, y, h => by
    unfold proj at h
    split at h
    · rename_i hc; exact absurd hc.2 (by simp)
    · cases h
  | .sl _, x, off, y, h => by
    unfold proj at h
    split at h
    · rename_i hc; obtain ⟨rfl, hc⟩ := hc; simp [leafAt, hc]
    · cases h

theorem slOffs_leaf : ∀ {t : Ty} {o off : Nat}, off ∈ slOffs t o → o ≤ off ∧ ∃ e, leafAt t (off - o) = some (.sl e) ∧ (zeroC t)[off - o]? = some (.slice none 0 0)
  | .int _, _, _, h | .bool, _, _, h | .str, _, _, h | .unit, _, _, h => by simp [slOffs] at h
  | .sl e, o, off, h => by
    simp only [slOffs, List.mem_singleton] at h
    subst h
    exact ⟨Nat.le_refl _, e, by simp [leafAt], by simp [zeroC]⟩
  | .pair a b, o, off, h => by
    have hl : (zeroC a).length = a.size := (RepC.zero (w := default) (I := fun _ _ => True) a).length
    simp only [slOffs, List.mem_append] at h
    rcases h with h | h
    · obtain ⟨h1, e, h2, h3⟩ := slOffs_leaf h
      have hlt : off - o < (zeroC a).length := (List.getElem?_eq_some_iff.1 h3).1
      refine ⟨h1, e, ?_, ?_⟩
      · unfold leafAt
        rw [show Nat.blt (off - o) a.size = true by rw [Nat.blt_eq]; omega]
        exact h2
      · simp only [zeroC]; rw [List.getElem?_append_left hlt]; exact h3
    · obtain ⟨h1, e, h2, h3⟩ := slOffs_leaf h
      refine ⟨by omega, e, ?_, ?_⟩
      · unfold leafAt
        rw [show Nat.blt (off - o) a.size = false by rw [← Bool.not_eq_true, Nat.blt_eq]; omega]
        rw [show off - o - a.size = off - (o + a.size) by omega]
        exact h2
      · simp only [zeroC]; rw [List.getElem?_append_right (by omega), hl, show off - o - a.size = off - (o + a.size) by omega]; exact h3

end
end Go.Ev
