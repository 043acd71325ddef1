/-
  THE EVALUATOR, PART C: the coloring of cells by who may write them, the relation of a frame to what the machine holds, and its first laws.
-/
import Derived.Test.YthappjffpkpojaaEvB
namespace Go.Ev
open Go Go.RowKit
set_option linter.unusedVariables false
set_option linter.unusedSimpArgs false

/-! ## The program's types -/
def FldsOk (P : Program) (tt : TT) (flds : List (Nat × Nat × Ty)) (fs : Array Field) : Prop :=
  flds.length = fs.size ∧ ∀ (j : Nat) off ft fty, flds[j]? = some (off, ft, fty) → ∃ f, fs[j]? = some f ∧ f.offset = off ∧ f.type = ft ∧ ∃ tf, tt.look ft = some tf ∧ tf.ty = fty

structure TIok (P : Program) (tt : TT) (t : Nat) (ti : TI) : Prop where
  info : ∃ i z, P.info? t = some i ∧ i.size = ti.ty.size ∧ i.bytes = ti.bytes ∧ i.zero = some z ∧ z.cells = (zeroC ti.ty).toArray
  bytes : ti.bytes ≤ 65536
  desc : match ti.ty with
    | .int k => P.underlying t = some (.int k)
    | .bool => P.underlying t = some .bool
    | .str => P.underlying t = some .string
    | .sl e => P.underlying t = some (.slice ti.elem) ∧ ∃ te, tt.look ti.elem = some te ∧ te.ty = e
    | _ => (ti.len = 0 ∧ ∃ fs, P.underlying t = some (.struct fs) ∧ FldsOk P tt ti.flds fs) ∨
        (ti.len ≠ 0 ∧ ∃ te, P.underlying t = some (.array ti.len ti.elem) ∧ tt.look ti.elem = some te ∧ (∀ e r, ti.ty = .pair e r → te.ty = e) ∧
          ∀ (j : Nat) off ft fty, ti.flds[j]? = some (off, ft, fty) → off = j * te.ty.size ∧ ft = ti.elem ∧ fty = te.ty)
  eq : ti.eqok = true → ti.ty.flat = true → ∀ (w : World) I (x y : ti.ty.den) (vx vy : Value) (xo yo : Operand) (op : BinOp), op = .eql ∨ op = .neq → (∀ k, ti.ty ≠ .int k) → ti.ty ≠ .str → RepV w I ti.ty x vx → RepV w I ti.ty y vy →
    (do eqGuard op t xo yo vx vy; binOp op t vx vy : Sem Value).run P w = .ok (.bool (if op = .eql then eqD ti.ty x y else !eqD ti.ty x y)) w

def TTok (P : Program) (tt : TT) : Prop := ∀ t ti, tt.look t = some ti → TIok P tt t ti

/-! ## Colors -/
inductive Tag where
  | imm | old | box (k : Nat) | sp (s : Nat) | spb (k off : Nat) | dead
  deriving DecidableEq

abbrev Col := Nat → Nat → Tag
def Imm (col : Col) : Nat → Nat → Prop := fun b o => col b o = .imm
/-- How a call sees what was there before it. -/
def oldCol (c0 : Col) : Col := fun b o => if c0 b o = .imm then .imm else .old
theorem oldCol_two (c0 : Col) (b o : Nat) : oldCol c0 b o = .imm ∨ oldCol c0 b o = .old := by unfold oldCol; split <;> simp

/-- The right to grow: all that lies behind the row in its block (and behind the block's end) bears the owner's color. -/
def Spare (w : World) (col : Col) (B : Nat) (tag : Tag) (sz : Nat) (v : Value) : Prop :=
  v = .slice none 0 0 ∨ ∃ b o n cap, v = .slice (some ⟨b, o, none⟩) n cap ∧ (B ≤ b ∧ b < w.heap.size ∧ ∀ q, w.frozen? ⟨b, q, none⟩ = false) ∧ n ≤ cap ∧
    ∀ j, n * sz ≤ j → col b (o + j) = tag ∧ (j < cap * sz → (w.cell? ⟨b, o + j, none⟩).isSome = true ∧ w.frozen? ⟨b, o + j, none⟩ = false)

def elSz : Ty → Nat
  | .sl e => e.size
  | _ => 0

def Peek (w : World) (col : Col) (d : DV) (v : Value) : Prop :=
  ∃ b o cs, v = .pointer (some ⟨b, o, none⟩) ∧ RepC w (Imm col) d.t d.x cs ∧ w.rangeAt b o cs ∧ ∀ j, j < cs.length → col b (o + j) = .imm ∨ col b (o + j) = .old

inductive All2 {α β : Type} (R : α → β → Prop) : List α → List β → Prop
  | nil : All2 R [] []
  | cons {x y xs ys} : R x y → All2 R xs ys → All2 R (x :: xs) (y :: ys)

theorem All2.imp {α β : Type} {R S : α → β → Prop} (h : ∀ x y, R x y → S x y) {xs : List α} {ys : List β} (a : All2 R xs ys) : All2 S xs ys := by
  induction a with
  | nil => exact .nil
  | cons p _ ih => exact .cons (h _ _ p) ih

theorem All2.imp_mem {α β : Type} {R S : α → β → Prop} {xs : List α} {ys : List β} (a : All2 R xs ys) : (∀ x y, x ∈ xs → R x y → S x y) → All2 S xs ys := by
  induction a with
  | nil => exact fun _ => .nil
  | cons p _ ih => exact fun h => .cons (h _ _ (by simp) p) (ih fun x y hx => h x y (by simp [hx]))

theorem All2.length {α β : Type} {R : α → β → Prop} {xs : List α} {ys : List β} (a : All2 R xs ys) : xs.length = ys.length := by
  induction a with
  | nil => rfl
  | cons _ _ ih => simp [ih]

theorem All2.get {α β : Type} {R : α → β → Prop} {xs : List α} {ys : List β} (a : All2 R xs ys) : ∀ {i : Nat} {x}, xs[i]? = some x → ∃ y, ys[i]? = some y ∧ R x y := by
  induction a with
  | nil => intro i x h; simp at h
  | cons p _ ih =>
    intro i x h
    cases i with
    | zero => simp at h; subst h; exact ⟨_, by simp, p⟩
    | succ i => simp at h; simpa using ih h

theorem All2.append {α β : Type} {R : α → β → Prop} {xs xs' : List α} {ys ys' : List β} (a : All2 R xs ys) (b : All2 R xs' ys') : All2 R (xs ++ xs') (ys ++ ys') := by
  induction a with
  | nil => exact b
  | cons p _ ih => exact .cons p ih

def CapOk (w : World) (col : Col) (blk : Nat → Nat) (c : Cap) (v : Value) : Prop := match c with
  | .val d => RepV w (Imm col) d.t d.x v
  | .ref k off => v = .pointer (some ⟨blk k, off, none⟩)
  | .peek d => Peek w col d v

def EntOk (w : World) (col : Col) (blk : Nat → Nat) (B : Nat) (s : Nat) (e : Ent) (v : Value) : Prop := match e with
  | .undef => True
  | .val d own => RepV w (Imm col) d.t d.x v ∧ (own = true → Spare w col B (.sp s) (elSz d.t) v)
  | .ref k off => v = .pointer (some ⟨blk k, off, none⟩)
  | .peek d => Peek w col d v
  | .clo f caps => ∃ vs : List Value, v = .func (.func f) #[] vs.toArray ∧ All2 (CapOk w col blk) caps vs
  | .tup ds => ∃ vs : List Value, v = .tuple vs.toArray ∧ All2 (fun (d : DV) v => RepV w (Imm col) d.t d.x v) ds vs
  | .full d => RepV w (Imm col) d.t d.x v ∧ ∃ p m, v = .slice p m m

def BoxOk (w : World) (col : Col) (blk : Nat → Nat) (B : Nat) (k : Nat) (bx : Box) : Prop :=
  B ≤ blk k ∧ ∃ cs, w.rangeAt (blk k) 0 cs ∧ RepC w (Imm col) bx.t bx.x cs ∧
    (∀ j, j < cs.length → col (blk k) j = .box k ∧ w.frozen? ⟨blk k, j, none⟩ = false) ∧
    ∀ off ∈ bx.own, ∃ v e, cs[off]? = some v ∧ leafAt bx.t off = some (.sl e) ∧ Spare w col B (.spb k off) e.size v

def Calm (T : Tag → Prop) : Prop := ¬ T .imm ∧ ¬ T .old
@[simp] theorem calm_iff (T : Tag → Prop) : Calm T ↔ ¬ T .imm ∧ ¬ T .old := Iff.rfl

/-- What stays: every cell whose color is none of those that are touched. -/
def Same (w w' : World) (col col' : Col) (T : Tag → Prop) : Prop :=
  (w.heap.size ≤ w'.heap.size ∧ ∀ b o, b < w.heap.size → w'.frozen? ⟨b, o, none⟩ = w.frozen? ⟨b, o, none⟩) ∧ ∀ b o, b < w.heap.size → ¬ T (col b o) →
    ((w.cell? ⟨b, o, none⟩).isSome = true → w'.cell? ⟨b, o, none⟩ = w.cell? ⟨b, o, none⟩ ∧ w'.frozen? ⟨b, o, none⟩ = w.frozen? ⟨b, o, none⟩) ∧ col' b o = col b o

theorem cell_lt {w : World} {b o : Nat} (h : (w.cell? ⟨b, o, none⟩).isSome = true) : b < w.heap.size := by
  obtain ⟨u, hu⟩ := Option.isSome_iff_exists.1 h
  exact World.block_lt_of_cell? w ⟨b, o, none⟩ hu

theorem Same.at {w w' : World} {col col' : Col} {T : Tag → Prop} (h : Same w w' col col' T) (b o : Nat) (hs : (w.cell? ⟨b, o, none⟩).isSome = true) (hT : ¬ T (col b o)) :
    w'.cell? ⟨b, o, none⟩ = w.cell? ⟨b, o, none⟩ ∧ w'.frozen? ⟨b, o, none⟩ = w.frozen? ⟨b, o, none⟩ ∧ col' b o = col b o := by
  obtain ⟨p, q⟩ := h.2 b o (cell_lt hs) hT
  exact ⟨(p hs).1, (p hs).2, q⟩

/-- Where a call began: how it saw the cells, the world, the colors. -/
structure En where
  c : Col
  w : World
  k : Col
  b : Nat → Nat

def NT : Tag → Prop := fun t => t ≠ .imm ∧ t ≠ .old

structure Rel (w0 : World) (c0 : En) (n : Nat) (F : Fr) (a : Act) (w : World) (col : Col) (blk : Nat → Nat) : Prop where
  below : Below w0.heap.size w0 w
  old : ∀ b o, b < w0.heap.size → col b o = oldCol c0.c b o
  fix : Same c0.w w c0.k col NT
  pin : ∀ k, n ≤ k → blk k = c0.b k
  ents : ∀ s, EntOk w col blk w0.heap.size s (getE F.v s) (a.tmps.getD s undef)
  boxes : ∀ k bx, getB F.b k = some bx → BoxOk w col blk w0.heap.size k bx
  defers : a.defers = []
  size : a.tmps.size = n

section
variable {w w' : World} {col col' : Col} {blk blk' : Nat → Nat} {B : Nat} {T : Tag → Prop}

theorem Same.refl : Same w w col col T := ⟨⟨Nat.le_refl _, fun _ _ _ => rfl⟩, fun _ _ _ _ => ⟨fun _ => ⟨rfl, rfl⟩, rfl⟩⟩

theorem Same.go {wi : World} {ci : Col} (h : Same wi w ci col NT) (hS : Same w w' col col' T) (h0 : Calm T) : Same wi w' ci col' NT := ⟨⟨Nat.le_trans h.1.1 hS.1.1, fun b o hb => (hS.1.2 b o (Nat.lt_of_lt_of_le hb h.1.1)).trans (h.1.2 b o hb)⟩, fun b o hc ht => by
  obtain ⟨p, r⟩ := h.2 b o hc ht
  have hci : ci b o = .imm ∨ ci b o = .old := Classical.byContradiction fun hn => ht ⟨fun e => hn (.inl e), fun e => hn (.inr e)⟩
  obtain ⟨p', r'⟩ := hS.2 b o (Nat.lt_of_lt_of_le hc h.1.1) (by rw [r]; exact hci.elim (fun e => by rw [e]; exact h0.1) (fun e => by rw [e]; exact h0.2))
  exact ⟨fun hs => ⟨(p' (by rw [(p hs).1]; exact hs)).1.trans (p hs).1, (p' (by rw [(p hs).1]; exact hs)).2.trans (p hs).2⟩, r'.trans r⟩⟩

theorem Same.repC (h : Same w w' col col' T) (h0 : Calm T) {t : Ty} {x : t.den} {cs : List Value} : RepC w (Imm col) t x cs → RepC w' (Imm col') t x cs :=
  RepC.mono fun b o hi hs => by
    have := h.at b o hs (by rw [show col b o = .imm from hi]; exact h0.1)
    exact ⟨this.1, by unfold Imm; rw [this.2.2]; exact hi⟩

theorem Same.repV (h : Same w w' col col' T) (h0 : Calm T) {t : Ty} {x : t.den} {v : Value} : RepV w (Imm col) t x v → RepV w' (Imm col') t x v
  | ⟨cs, h1, h2⟩ => ⟨cs, h.repC h0 h1, h2⟩

theorem Same.range (h : Same w w' col col' T) {b o : Nat} {cs : List Value} (hr : w.rangeAt b o cs) (hT : ∀ j, j < cs.length → ¬ T (col b (o + j))) : w'.rangeAt b o cs := fun j v hv => by
  have hj : j < cs.length := (List.getElem?_eq_some_iff.1 hv).1
  have hc := hr j v hv
  rw [(h.at b (o + j) (by rw [hc]; rfl) (hT j hj)).1]
  exact hc

theorem range_some {b o : Nat} {cs : List Value} (hr : w.rangeAt b o cs) {j : Nat} (hj : j < cs.length) : (w.cell? ⟨b, o + j, none⟩).isSome = true := by
  rw [hr j cs[j] (by simp [hj])]; rfl

theorem Same.peek (h : Same w w' col col' T) (h0 : Calm T) {d : DV} {v : Value} : Peek w col d v → Peek w' col' d v := by
  rintro ⟨b, o, cs, rfl, h1, h2, h3⟩
  have hT : ∀ j, j < cs.length → ¬ T (col b (o + j)) := fun j hj => by
    rcases h3 j hj with e | e <;> rw [e]
    · exact h0.1
    · exact h0.2
  exact ⟨b, o, cs, rfl, h.repC h0 h1, h.range h2 hT, fun j hj => by
    rw [(h.at b (o + j) (range_some h2 hj) (hT j hj)).2.2]; exact h3 j hj⟩

theorem Same.spare (h : Same w w' col col' T) {tag : Tag} (h0 : ¬ T tag) {sz : Nat} {v : Value} : Spare w col B tag sz v → Spare w' col' B tag sz v := by
  rintro (h1 | ⟨b, o, n, cap, rfl, h1, h2, h3⟩)
  · exact .inl h1
  · refine .inr ⟨b, o, n, cap, rfl, ⟨h1.1, Nat.lt_of_lt_of_le h1.2.1 h.1.1, fun q => (h.1.2 b q h1.2.1).trans (h1.2.2 q)⟩, h2, fun j hj => ?_⟩
    obtain ⟨p, q⟩ := h3 j hj
    obtain ⟨p', r'⟩ := h.2 b (o + j) h1.2.1 (by rw [p]; exact h0)
    refine ⟨by rw [r', p], fun hj' => ?_⟩
    obtain ⟨q, r⟩ := q hj'
    obtain ⟨p', q'⟩ := p' q
    exact ⟨by rw [p', q], by rw [q', r]⟩

theorem Same.cap (h : Same w w' col col' T) (h0 : Calm T) {c : Cap} {v : Value} (hb : ∀ k off, c = .ref k off → blk' k = blk k) : CapOk w col blk c v → CapOk w' col' blk' c v := by
  intro hc
  cases c with
  | val d => exact h.repV h0 hc
  | ref k off => simp only [CapOk] at hc ⊢; rw [hb k off rfl]; exact hc
  | peek d => exact h.peek h0 hc

def Ent.refs (e : Ent) (k : Nat) : Prop := match e with
  | .ref k' _ => k' = k
  | .clo _ cs => ∃ off, Cap.ref k off ∈ cs
  | _ => False

theorem Same.ent (h : Same w w' col col' T) (h0 : Calm T) {s : Nat} {e : Ent} {v : Value} (hs : ∀ d, e = .val d true → ¬ T (.sp s)) (hb : ∀ k, e.refs k → blk' k = blk k) :
    EntOk w col blk B s e v → EntOk w' col' blk' B s e v := by
  intro he
  cases e with
  | undef => trivial
  | val d own =>
    refine ⟨h.repV h0 he.1, fun ho => ?_⟩
    subst ho
    exact h.spare (hs d rfl) (he.2 rfl)
  | ref k off => simp only [EntOk] at he ⊢; rw [hb k rfl]; exact he
  | peek d => exact h.peek h0 he
  | clo f caps =>
    obtain ⟨vs, rfl, ha⟩ := he
    exact ⟨vs, rfl, ha.imp_mem fun c v hc => h.cap h0 fun k off e => hb k ⟨off, e ▸ hc⟩⟩
  | tup ds =>
    obtain ⟨vs, rfl, ha⟩ := he
    exact ⟨vs, rfl, ha.imp fun d v => h.repV h0⟩
  | full d => exact ⟨h.repV h0 he.1, he.2⟩

theorem Same.box (h : Same w w' col col' T) (h0 : Calm T) {k : Nat} {bx : Box} (hk : ¬ T (.box k)) (hs : ∀ off ∈ bx.own, ¬ T (.spb k off)) (hb : blk' k = blk k) :
    BoxOk w col blk B k bx → BoxOk w' col' blk' B k bx := by
  rintro ⟨h1, cs, h2, h3, h4, h5⟩
  have hT : ∀ j, j < cs.length → ¬ T (col (blk k) (0 + j)) := fun j hj => by rw [Nat.zero_add, (h4 j hj).1]; exact hk
  refine ⟨by rw [hb]; exact h1, cs, by rw [hb]; exact h.range h2 hT, h.repC h0 h3, fun j hj => ?_, fun off ho => ?_⟩
  · have := h.at (blk k) j (by simpa using range_some h2 hj) (by rw [(h4 j hj).1]; exact hk)
    rw [hb, this.2.2, this.2.1]
    exact h4 j hj
  · obtain ⟨v, e, p, q, r⟩ := h5 off ho
    exact ⟨v, e, p, q, h.spare (hs off ho) r⟩

end

/-! ## Frames as lists -/
theorem getE_setE (v : List (Nat × Ent)) (d : Nat) (e : Ent) (s : Nat) : getE (setE v d e) s = if s = d then e else getE v s := by
  induction v with
  | nil =>
    simp only [setE, getE]
    cases h : Nat.beq d s with
    | true => have := Nat.eq_of_beq_eq_true h; subst this; simp
    | false => have : ¬ s = d := fun e => by subst e; simp at h
               simp [this]
  | cons p r ih =>
    obtain ⟨k, x⟩ := p
    simp only [setE]
    cases h : Nat.beq k d with
    | true =>
      have := Nat.eq_of_beq_eq_true h; subst this
      simp only [cond_true, getE]
      cases h' : Nat.beq k s with
      | true => have := Nat.eq_of_beq_eq_true h'; subst this; simp
      | false => have : ¬ s = k := fun e => by subst e; simp at h'
                 simp [this]
    | false =>
      simp only [cond_false, getE]
      cases h' : Nat.beq k s with
      | true =>
        have := Nat.eq_of_beq_eq_true h'; subst this
        have : ¬ k = d := fun e => by subst e; simp at h
        simp [this]
      | false => simp [ih]

theorem getB_setB (v : List (Nat × Box)) (d : Nat) (e : Box) (s : Nat) : getB (setB v d e) s = if s = d then some e else getB v s := by
  induction v with
  | nil =>
    simp only [setB, getB]
    cases h : Nat.beq d s with
    | true => have := Nat.eq_of_beq_eq_true h; subst this; simp
    | false => have : ¬ s = d := fun e => by subst e; simp at h
               simp [this]
  | cons p r ih =>
    obtain ⟨k, x⟩ := p
    simp only [setB]
    cases h : Nat.beq k d with
    | true =>
      have := Nat.eq_of_beq_eq_true h; subst this
      simp only [cond_true, getB]
      cases h' : Nat.beq k s with
      | true => have := Nat.eq_of_beq_eq_true h'; subst this; simp
      | false => have : ¬ s = k := fun e => by subst e; simp at h'
                 simp [this]
    | false =>
      simp only [cond_false, getB]
      cases h' : Nat.beq k s with
      | true =>
        have := Nat.eq_of_beq_eq_true h'; subst this
        have : ¬ k = d := fun e => by subst e; simp at h
        simp [this]
      | false => simp [ih]

theorem getE_purgeE (d : Nat) (v : List (Nat × Ent)) (s : Nat) : getE (purgeE d v) s = (getE v s).purge d := by
  induction v with
  | nil => rfl
  | cons p r ih =>
    obtain ⟨k, x⟩ := p
    simp only [purgeE, getE]
    cases h : Nat.beq k s <;> simp [ih]

/-! ## One slot is written -/
theorem getD_set (a : Array Value) (d s : Nat) (v : Value) (h : d < a.size) : (a.setIfInBounds d v).getD s undef = if s = d then v else a.getD s undef := by
  by_cases e : s = d
  · subst e; simp [Array.getD, h]
  · simp only [e, if_false]
    unfold Array.getD
    simp only [Array.size_setIfInBounds]
    split
    · rename_i hs
      have := Array.getElem_setIfInBounds_ne (xs := a) (i := d) (a := v) (j := s) (by simpa using hs) (fun h => e h.symm)
      simpa using this
    · rfl

section
variable {w0 w w' : World} {c0 : En} {n : Nat} {F : Fr} {a : Act} {col col' : Col} {blk : Nat → Nat} {T : Tag → Prop}

theorem Rel.drop (h : Rel w0 c0 n F a w col blk) {s : Nat} {d : DV} {own : Bool} (hs : getE F.v s = .val d own) : Rel w0 c0 n ⟨setE F.v s (.val d false), F.b⟩ a w col blk :=
  ⟨h.below, h.old, h.fix, h.pin, fun s' => by
    show EntOk _ _ _ _ _ (getE (setE F.v s (.val d false)) s') _
    rw [getE_setE]
    split
    · rename_i e; subst e
      have := h.ents s'
      rw [hs] at this
      exact ⟨this.1, fun h => by simp at h⟩
    · exact h.ents s', h.boxes, h.defers, h.size⟩

/-- The world goes on; slot d gets a new entry. -/
theorem Rel.put (h : Rel w0 c0 n F a w col blk) {d : Nat} {e : Ent} {v : Value} (hd : d < n) (hB : Below w0.heap.size w0 w') (hS : Same w w' col col' T) (h0 : Calm T)
    (ho : ∀ b o, b < w0.heap.size → col' b o = oldCol c0.c b o) (hsp : ∀ s, s ≠ d → T (.sp s) → ∀ x, getE F.v s ≠ .val x true)
    (hbx : ∀ k, ¬ T (.box k)) (hspb : ∀ k off bx, T (.spb k off) → getB F.b k = some bx → off ∉ bx.own)
    (he : EntOk w' col' blk w0.heap.size d e v) : Rel w0 c0 n ⟨setE F.v d e, F.b⟩ (a.put (some d) v) w' col' blk :=
  ⟨hB, ho, h.fix.go hS h0, h.pin, fun s => by
    show EntOk _ _ _ _ _ (getE (setE F.v d e) s) ((a.tmps.setIfInBounds d v).getD s undef)
    rw [getE_setE, getD_set _ _ _ _ (by rw [h.size]; exact hd)]
    split
    · rename_i e; subst e; exact he
    · rename_i hne
      exact hS.ent h0 (fun x hx hT => hsp s hne hT x hx) (fun _ _ => rfl) (h.ents s),
   fun k bx hk => hS.box h0 (hbx k) (fun off hoff hT => hspb k off bx hT hk hoff) rfl (h.boxes k bx hk), h.defers, by
    show (a.tmps.setIfInBounds d v).size = n
    rw [Array.size_setIfInBounds]; exact h.size⟩

/-- Nothing but slot d. -/
theorem Rel.put0 (h : Rel w0 c0 n F a w col blk) {d : Nat} {e : Ent} {v : Value} (hd : d < n) (he : EntOk w col blk w0.heap.size d e v) :
    Rel w0 c0 n ⟨setE F.v d e, F.b⟩ (a.put (some d) v) w col blk :=
  h.put (T := fun _ => False) hd h.below Same.refl ⟨fun h => h, fun h => h⟩ h.old (fun _ _ h => h.elim) (fun _ h => h) (fun _ _ _ h => h.elim) he

end
end Go.Ev
