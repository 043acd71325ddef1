/-
  nest.Spots: the contract: up to the sorts and from the grid on by the evaluator, the sorts and the cuts between by the library's contracts.
-/
import Derived.Test.YthappjffpkpojaaNgA
import Derived.Test.YthappjffpkpojaaNeList
namespace Go.Ev
open Go Go.Proofs Go.RowKit Go.Sort
set_option linter.unusedVariables false
set_option linter.unusedSimpArgs false
set_option linter.unusedSectionVars false

/-! ### Operations in a row, in order -/
inductive Sh where
  | mv (s : Nat) | cl (f s : Nat)

def shOk (o : Oper) (d : Nat) (sh : Sh) : Bool := o.guard.isNone && (match o.dst with | some d' => Nat.beq d d' | none => false) && (match sh, o.op with
  | .mv s, .move (.tmp s') => Nat.beq s s'
  | .mv s, .assign (.tmp s') => Nat.beq s s'
  | .cl f s, .call ⟨.value (.func f'), ⟨[.tmp s']⟩, _⟩ => Nat.beq f f' && Nat.beq s s'
  | _, _ => false)

def shsOk : List Oper → List (Nat × Sh) → Bool
  | [], [] => true
  | o :: r, (d, sh) :: r' => shOk o d sh && shsOk r r'
  | _, _ => false

def wpSh (P : Program) (Q : Exit → Act → World → Prop) : List (Nat × Sh) → Act → World → Prop
  | [], a, w => Q .normal a w
  | (d, .mv s) :: r, a, w => wpSh P Q r (a.put (some d) (a.tmps.getD s undef)) w
  | (d, .cl f s) :: r, a, w => Calls P f #[a.tmps.getD s undef] w fun e w' => ∃ v, e = .returned v ∧ wpSh P Q r (a.put (some d) v) w'

def regOk (c : Code) (shs : List (Nat × Sh)) : Bool := match c with
  | .region _ ops false => shsOk ops.toList shs
  | _ => false

def FnIn (P : Program) (f : Nat) : Prop := ∃ fn, P.funcs[f]? = some fn ∧ fn.body.isSome = true ∧ (fn.name == "runtime.NumGoroutine") = false

def shFns (P : Program) : List (Nat × Sh) → Prop
  | [] => True
  | (_, .mv _) :: r => shFns P r
  | (_, .cl f _) :: r => FnIn P f ∧ shFns P r

theorem wp_shs {P : Program} {ops : Array Oper} {Q : Exit → Act → World → Prop} : ∀ {l : List Oper} {shs : List (Nat × Sh)}, shsOk l shs = true → shFns P shs → ∀ {a : Act} {w : World}, wpSh P Q shs a w → wpList P ops Q l a w
  | [], [], _, _, a, w, h => h
  | [], _ :: _, h, _, _, _, _ => by simp [shsOk] at h
  | _ :: _, [], h, _, _, _, _ => by simp [shsOk] at h
  | o :: r, (d, sh) :: r', h, hf, a, w, hw => by
    simp only [shsOk, Bool.and_eq_true] at h
    obtain ⟨ho, hr⟩ := h
    simp only [shOk, Bool.and_eq_true] at ho
    obtain ⟨⟨hg, hd⟩, hop⟩ := ho
    have hg' : o.guard = none := by simpa using hg
    have hd' : o.dst = some d := by
      split at hd
      · rename_i d' e; rw [e, Nat.eq_of_beq_eq_true hd]
      · cases hd
    refine wpList_plain hg' fun K hK => ?_
    unfold Oper.wp
    split at hop
    · rename_i s s' e
      have hrun : (execOp a.eval o).run P w = .ok (.value (a.eval (.tmp s))) w := by
        rw [Nat.eq_of_beq_eq_true hop]; unfold execOp; rw [e]; rfl
      rw [hrun]
      show K (a.put o.dst _) w
      rw [hd']
      exact hK _ _ (wp_shs hr hf hw)
    · rename_i s s' e
      have hrun : (execOp a.eval o).run P w = .ok (.value (a.eval (.tmp s))) w := by
        rw [Nat.eq_of_beq_eq_true hop]; unfold execOp; rw [e]; rfl
      rw [hrun]
      show K (a.put o.dst _) w
      rw [hd']
      exact hK _ _ (wp_shs hr hf hw)
    · rename_i f s f' s' ts e
      rw [Bool.and_eq_true] at hop
      obtain ⟨⟨fn, hfun, hbody, hname⟩, hf'⟩ := hf
      have e1 := Nat.eq_of_beq_eq_true hop.1
      have e2 := Nat.eq_of_beq_eq_true hop.2
      subst e1; subst e2
      have hrun : (execOp a.eval o).run P w = .ok (.enter f #[a.tmps.getD s undef]) w := by
        unfold execOp
        rw [e]
        have hb : ¬ fn.body = none := by intro hh; rw [hh] at hbody; cases hbody
        have hn' : ¬ fn.name = "runtime.NumGoroutine" := by simpa using hname
        simp [resolve, Deferred.ofValue, Act.eval, invoke, callFunc, hfun, hn', hb]
      rw [hrun]
      show Calls P f _ w _
      refine Calls.mono (show Calls P f #[a.tmps.getD s undef] w _ from hw) fun e w' hpost => ?_
      obtain ⟨v, rfl, hw'⟩ := hpost
      show K (a.put o.dst v) w'
      rw [hd']
      exact hK _ _ (wp_shs hr hf' hw')
    · cases hop

theorem wp_reg {P : Program} {c : Code} {shs : List (Nat × Sh)} {Q : Exit → Act → World → Prop} {a : Act} {w : World} (h : regOk c shs = true) (hf : shFns P shs) (hw : wpSh P Q shs a w) : c.wp P Q a w := by
  unfold regOk at h
  split at h
  · exact wp_region_list (wp_shs h hf hw)
  · cases h

/-! ### Rows -/
theorem below_putRow {B b o n : Nat} {d : Array Int} {w w1 : World} (h : Go.RowKit.Below B w w1) (hb : B ≤ b) : Go.RowKit.Below B w (putRow (Value.int .i64) (Sort.ahead w1 n) b o d) := by
  refine ⟨h.os, h.tape, h.output, by rw [size_putRow]; exact h.size, fun k hk => ?_⟩
  rw [← h.block k hk]
  simp only [putRow, mapBlock, Array.getElem?_modify]
  rw [if_neg (by omega)]
  rfl

theorem holds_other {b o b' o' n : Nat} {d d' : Array Int} {w : World} (h : Holds (Value.int .i64) w b o d) (hne : b ≠ b') : Holds (Value.int .i64) (putRow (Value.int .i64) (Sort.ahead w n) b' o' d') b o d := fun j hj => by
  obtain ⟨h1, h2⟩ := h j hj
  exact ⟨by rw [cell?_putRow_other _ _ _ _ _ _ (.inl hne)]; exact h1, by rw [frozen?_putRow]; exact h2⟩

theorem holds_ahead' {b o n : Nat} {d : Array Int} {w : World} (h : Holds (Value.int .i64) w b o d) : Holds (Value.int .i64) (Sort.ahead w n) b o d := h

theorem holds_put {b o n : Nat} {d d' : Array Int} {w : World} (h : Holds (Value.int .i64) w b o d) (hs : d'.size = d.size) : Holds (Value.int .i64) (putRow (Value.int .i64) (Sort.ahead w n) b o d') b o d' :=
  holds_putRow _ _ _ _ d d' (holds_ahead' h) hs

/-- The row of a value that may grow. -/
theorem row_of {w : World} {col : Col} {B : Nat} {tag : Tag} {zs : List Int} {v : Value} (hne : zs ≠ []) (h : RepV w (Imm col) (.sl (.int .i64)) zs v) (hs : Spare w col B tag 1 v) :
    ∃ b o cap, v = .slice (some ⟨b, o, none⟩) zs.length cap ∧ zs.length ≤ cap ∧ B ≤ b ∧ Holds (Value.int .i64) w b o zs.toArray ∧ ∀ j, zs.length ≤ j → col b (o + j) = tag := by
  rcases repV_sl h with ⟨_, e⟩ | ⟨b, off, cap, es, hv, hc, hl, hr, hi⟩
  · exact absurd e hne
  · rcases hs with hs | ⟨b', o', n', cap', hv', ⟨hB, hblt, hfz⟩, hn, hsp⟩
    · rw [hv] at hs; cases hs
    · rw [hv] at hv'
      simp only [Value.slice.injEq, Option.some.injEq, Addr.mk.injEq, and_true] at hv'
      obtain ⟨⟨rfl, rfl⟩, rfl, rfl⟩ := hv'
      refine ⟨b, off, cap, hv, hc, hB, fun j hj => ⟨?_, hfz _⟩, fun j hj => (hsp j (by omega)).1⟩
      have hj' : j < zs.length := by simpa using hj
      obtain ⟨c, p, q, h1, h2, h3⟩ := RepL.get (n := 1) (fun _ _ h => h.length) hl (List.getElem?_eq_getElem hj')
      have h1' : c = [.int .i64 zs[j]] := h1
      subst h1'
      have := hr j (.int .i64 zs[j]) (by
        rw [h2, List.append_assoc, List.getElem?_append_right (by omega), h3, Nat.mul_one, Nat.sub_self]; simp)
      rw [this]
      simp [hj']

theorem repL_ints (w : World) (I : Nat → Nat → Prop) : ∀ zs : List Int, RepL (RepC w I (.int .i64)) zs (zs.map (Value.int .i64))
  | [] => rfl
  | x :: r => ⟨[.int .i64 x], _, rfl, repL_ints w I r, rfl⟩

theorem rep_row {w : World} {I : Nat → Nat → Prop} {b o cap : Nat} {zs us : List Int} (h : Holds (Value.int .i64) w b o (zs ++ us).toArray) (hc : zs.length ≤ cap) (hI : ∀ j, j < zs.length → I b (o + j)) :
    RepV w I (.sl (.int .i64)) zs (.slice (some ⟨b, o, none⟩) zs.length cap) := by
  refine ⟨_, ⟨_, rfl, .inr ⟨b, o, cap, zs.map (Value.int .i64), rfl, hc, repL_ints w I zs, fun j v hv => ?_, fun j hj => hI j (by simpa using hj)⟩⟩, .inr ⟨rfl, rfl⟩⟩
  have hj : j < zs.length := by have := (List.getElem?_eq_some_iff.1 hv).1; simpa using this
  have h1 := (h j (by simp; omega)).1
  rw [h1]
  rw [List.getElem?_map, List.getElem?_eq_getElem hj] at hv
  simp only [Option.map_some, Option.some.injEq] at hv
  rw [← hv]
  congr 2
  rw [getElem!_pos _ j (by simp; omega)]
  simp [List.getElem_append_left hj]
end Go.Ev
