/-
  nest.Spots in three parts: up to the sorts, the sorts themselves, from the grid on: its code's parts as functions of their own, and what the walk of a part gives.
-/
import Derived.Test.YthappjffpkpojaaEvN
import Derived.Test.YthappjffpkpojaaNePdq
namespace Go.Ev
open Go Go.Proofs
set_option linter.unusedVariables false
set_option linter.unusedSimpArgs false
set_option linter.unusedSectionVars false

/-- What these functions ask of the world: nothing. -/
def Jn : World → Prop := fun _ => True
theorem Jn_keeps : Keeps Jn := fun _ _ h _ => h

/-- The first parts of a sequence, and what follows them. -/
def preOf : Code → Nat → Code
  | _, 0 => .skip
  | .seq a b, n + 1 => .seq a (preOf b n)
  | c, _ => c

def tailOf : Code → Nat → Code
  | c, 0 => c
  | .seq _ b, n + 1 => tailOf b n
  | c, _ => c

def spine : Code → Nat → Bool
  | _, 0 => true
  | .seq _ b, n + 1 => spine b n
  | _, _ => false

noncomputable def Try.f1016 : Func := { Try.f16 with body := some (preOf (codeOf Try.f16) 4) }
noncomputable def Try.f2016 : Func := { Try.f16 with body := some (tailOf (codeOf Try.f16) 7) }

/-- At the sorts: the two rows, which nobody else holds; or the function has returned. -/
def retP : Ex → Fr → Option (List (Ty.den (.pair (.int .i64) (.pair (.int .i64) .unit))) ⊕ (List Int × List Int)) := fun e F => match e with
  | .ret => (match getE F.v 10 with
    | .val d _ => (match d.as (.sl (.pair (.int .i64) (.pair (.int .i64) .unit))) with | some x => some (.inl x) | none => none)
    | _ => none)
  | .normal => (match getE F.v 11, getE F.v 12 with
    | .val d true, .val e true => (match d.as (.sl (.int .i64)), e.as (.sl (.int .i64)) with | some x, some y => some (.inr (x, y)) | _, _ => none)
    | _, _ => none)
  | .exit _ => none

section
variable {P : Program} {tt : TT} {Γ : List Con} {w0 : World} {c0 : En} {n : Nat}

/-- The walk of the first parts. -/
theorem run_pre {R : Type} (hT : TTok P tt) (hΓ : ∀ c ∈ Γ, SoundAt P w0 c) (hm : P.follows .mixedOrders = true) {cut : Cuts} {keep : List Nat} {fu : List Nat → Fr → Nat} {r : R} : ∀ (m : Nat) (c : Code), spine c m = true → slotsOk n c = true → ∀ (cur : List Nat) (F : Fr) (k : Ex → Fr → Option R) (Q : Exit → Act → World → Prop) (a : Act) (w : World) (col : Col) (blk : Nat → Nat),
    run Γ tt cut keep fu (preOf c m) cur F k = some r → Rel w0 c0 n F a w col blk →
    (∀ e F' a' w' col' blk', Rel w0 c0 n F' a' w' col' blk' → k e F' = some r → match e with | .normal => (tailOf c m).wp P Q a' w' | .exit i => Q (.exit i) a' w' | .ret => Q .ret a' w') → c.wp P Q a w
  | 0, c, _, _, cur, F, k, Q, a, w, col, blk, h, hr, hk => by
    have h' : run Γ tt cut keep fu .skip cur F k = some r := by cases c <;> exact h
    simp only [run] at h'
    have := hk .normal F a w col blk hr h'
    cases c <;> exact this
  | m + 1, .seq x y, hp, hs, cur, F, k, Q, a, w, col, blk, h, hr, hk => by
    simp only [slotsOk, Bool.and_eq_true] at hs
    simp only [preOf, run] at h
    refine wp_seq (run_ok hT hΓ hm x hs.1 _ F _ _ a w col blk h hr fun e F' a' w' col' blk' hr' hk' => ?_)
    cases e with
    | normal =>
      simp only [seqK] at hk'
      exact run_pre hT hΓ hm m y hp hs.2 _ (canonAt cut cur F') k Q a' w' col' blk' (pass_some hk') (hr'.canon cut cur) hk
    | exit id => exact hk (.exit id) F' a' w' col' blk' hr' hk'
    | ret => exact hk .ret F' a' w' col' blk' hr' hk'
  | m + 1, .skip, hp, _, _, _, _, _, _, _, _, _, _, _, _ => by simp [spine] at hp
  | m + 1, .ret, hp, _, _, _, _, _, _, _, _, _, _, _, _ => by simp [spine] at hp
  | m + 1, .exit _, hp, _, _, _, _, _, _, _, _, _, _, _, _ => by simp [spine] at hp
  | m + 1, .region .., hp, _, _, _, _, _, _, _, _, _, _, _, _ => by simp [spine] at hp
  | m + 1, .cond .., hp, _, _, _, _, _, _, _, _, _, _, _, _ => by simp [spine] at hp
  | m + 1, .block .., hp, _, _, _, _, _, _, _, _, _, _, _, _ => by simp [spine] at hp
  | m + 1, .loop .., hp, _, _, _, _, _, _, _, _, _, _, _, _ => by simp [spine] at hp
  | m + 1, .rangeFunc .., hp, _, _, _, _, _, _, _, _, _, _, _, _ => by simp [spine] at hp
  | m + 1, .scope .., hp, _, _, _, _, _, _, _, _, _, _, _, _ => by simp [spine] at hp
  | m + 1, .label .., hp, _, _, _, _, _, _, _, _, _, _, _, _ => by simp [spine] at hp
  | m + 1, .goto .., hp, _, _, _, _, _, _, _, _, _, _, _, _ => by simp [spine] at hp
  | m + 1, .refuse .., hp, _, _, _, _, _, _, _, _, _, _, _, _ => by simp [spine] at hp
end
end Go.Ev
