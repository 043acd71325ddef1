/-
  THE EVALUATOR, PART G: cuts, addresses, literals, calls by contract; all operations together.
-/
import Derived.Test.YthappjffpkpojaaEvF
namespace Go.Ev
open Go Go.RowKit
set_option linter.unusedVariables false
set_option linter.unusedSimpArgs false

section
variable {P : Program} {tt : TT} {Γ : List Con} {w0 w w' : World} {c0 : En} {n : Nat} {F : Fr} {a : Act} {col : Col} {blk : Nat → Nat} {o : Oper} {δ : Delta} {tr : Bool}

theorem intOfE_some {e : Ent} {m : Int} (he : intOfE e = some m) : ∃ k own, e = .val ⟨.int k, m⟩ own := by
  unfold intOfE at he
  split at he
  · simp only [Option.some.injEq] at he; subst he; exact ⟨_, _, rfl⟩
  · cases he

/-! ### cuts -/
theorem RepL.cut {α : Type} {rep : α → List Value → Prop} {k : Nat} (hk : ∀ x cs, rep x cs → cs.length = k) {xs : List α} {es : List Value} (h : RepL rep xs es) {l r : Nat} (h1 : l ≤ r) (h2 : r ≤ xs.length) :
    ∃ p c q, es = p ++ c ++ q ∧ p.length = l * k ∧ RepL rep ((xs.take r).drop l) c := by
  have e : xs = xs.take l ++ (xs.take r).drop l ++ xs.drop r := by
    have : xs.take l = (xs.take r).take l := by rw [List.take_take]; congr 1; omega
    rw [this, List.take_append_drop, List.take_append_drop]
  rw [e] at h
  obtain ⟨pc, q, h3, h4, rfl⟩ := RepL.split h
  obtain ⟨p, c, h5, h6, rfl⟩ := RepL.split h3
  refine ⟨p, c, q, rfl, ?_, h6⟩
  rw [RepL.length hk h5, List.length_take]
  congr 1; omega

/-- A cut of a row is a row that is read. -/
theorem repV_cut {e : Ty} {xs : List e.den} {v : Value} (h : RepV w (Imm col) (.sl e) xs v) : ∃ p len cap, v = .slice p len cap ∧ len = xs.length ∧ len ≤ cap ∧ (∀ q, p = some q → q.spot = none) ∧
    ∀ l r m, l ≤ r → r ≤ xs.length → r ≤ m → m ≤ cap → RepV w (Imm col) (.sl e) ((xs.take r).drop l) (.slice (if m = l then p else p.map (·.add (l * e.size))) (r - l) (m - l)) := by
  rcases repV_sl h with ⟨rfl, hx⟩ | ⟨b, off, cap, es, rfl, hc, hes, hrg, him⟩
  · have hx' : xs = [] := hx
    subst hx'
    refine ⟨none, 0, 0, rfl, rfl, Nat.le_refl _, by simp, fun l r m h1 h2 h3 h4 => ?_⟩
    have : r = 0 := by simpa using h2
    subst this
    have : l = 0 := by omega
    subst this
    have : m = 0 := by omega
    subst this
    exact ⟨_, ⟨_, rfl, .inl ⟨by simp, by simp⟩⟩, .inr ⟨rfl, rfl⟩⟩
  · refine ⟨some ⟨b, off, none⟩, xs.length, cap, rfl, rfl, hc, by simp, fun l r m h1 h2 h3 h4 => ?_⟩
    have hlen : ((xs.take r).drop l).length = r - l := by rw [List.length_drop, List.length_take]; omega
    obtain ⟨p, c, q, rfl, hp, hcr⟩ := RepL.cut (fun _ _ h => h.length) hes h1 h2
    by_cases hm : m = l
    · have : r = l := by omega
      subst this
      subst hm
      have he : (xs.take m).drop m = [] := List.eq_nil_of_length_eq_zero (by omega)
      rw [he]
      simp only [if_pos, Nat.sub_self]
      exact ⟨_, ⟨_, rfl, .inr ⟨b, off, 0, [], by simp, Nat.le_refl _, rfl, fun j v hv => by simp at hv, fun j hj => by simp at hj⟩⟩, .inr ⟨rfl, rfl⟩⟩
    · simp only [if_neg hm, Option.map_some, Addr.add_mid]
      refine ⟨_, ⟨_, rfl, .inr ⟨b, off + l * e.size, m - l, c, by rw [hlen], by rw [hlen]; omega, hcr, ?_, fun j hj => ?_⟩⟩, .inr ⟨rfl, rfl⟩⟩
      · rw [← hp]; exact rangeAt_mid hrg
      · have := him (p.length + j) (by simp only [List.length_append]; omega)
        rw [hp] at this
        rwa [Nat.add_assoc]

/-- A bound of a cut. -/
def Bd (x : Option Value) (dflt r : Nat) : Prop := (x = none ∧ r = dflt) ∨ ∃ k i, x = some (.int k i) ∧ 0 ≤ i ∧ r = i.toNat

theorem run_bound (k : IntKind) (i : Int) (y : Nat) (code : BoundsCode) (h0 : 0 ≤ i) (h1 : i.toNat ≤ y) : (Instr.sliceBound (.int k i) y code).run P w = .ok i.toNat w := by
  have h2 : i ≤ (y : Int) := by omega
  simp [Instr.sliceBound, asIntOf, h0, h2]

theorem run_cut {t e : Nat} {i : TypeInfo} (hu : P.underlying t = some (.slice e)) (hi : P.info? e = some i) (p : Option Addr) (len cap : Nat) (lo hi' mx : Option Value) (l r m : Nat)
    (h1 : Bd lo 0 l) (h2 : Bd hi' len r) (h3 : Bd mx cap m) (hmx : mx ≠ none → hi' ≠ none) (h4 : l ≤ r) (h5 : r ≤ m) (h6 : m ≤ cap) :
    (Instr.sliceAt t (.slice p len cap) lo hi' mx).run P w = .ok (.slice (if m = l then p else p.map (·.add (l * i.size))) (r - l) (m - l)) w := by
  have key : (Instr.sliceBounds true len cap lo hi' mx).run P w = .ok (l, r, m) w := by
    unfold Instr.sliceBounds
    rcases h3 with ⟨rfl, e3⟩ | ⟨km, im, rfl, a3, e3⟩
    · rcases h2 with ⟨rfl, e2⟩ | ⟨kh, ih, rfl, a2, e2⟩
      · rcases h1 with ⟨rfl, e1⟩ | ⟨kl, il, rfl, a1, e1⟩
        · simp [e1, e2, e3]
        · have b1 := run_bound (P := P) (w := w) kl il len .sliceB a1 (by omega)
          simp [b1, e1, e2, e3]
      · have b2 := run_bound (P := P) (w := w) kh ih cap .sliceAcap a2 (by omega)
        rcases h1 with ⟨rfl, e1⟩ | ⟨kl, il, rfl, a1, e1⟩
        · simp [b2, e1, e2, e3]
        · have b1 := run_bound (P := P) (w := w) kl il ih.toNat .sliceB a1 (by omega)
          simp [b1, b2, e1, e2, e3]
    · have b3 := run_bound (P := P) (w := w) km im cap .slice3Acap a3 (by omega)
      rcases h2 with ⟨rfl, e2⟩ | ⟨kh, ih, rfl, a2, e2⟩
      · exact absurd rfl (hmx (by simp))
      · have b2 := run_bound (P := P) (w := w) kh ih im.toNat .slice3B a2 (by omega)
        rcases h1 with ⟨rfl, e1⟩ | ⟨kl, il, rfl, a1, e1⟩
        · simp [b2, b3, e1, e2, e3]
        · have b1 := run_bound (P := P) (w := w) kl il ih.toNat .slice3C a1 (by omega)
          simp [b1, b2, b3, e1, e2, e3]
  unfold Instr.sliceAt
  rw [Sem.run_bind, run_underlying hu w, Result.andThen_ok]
  unfold Instr.slice
  simp only []
  rw [Sem.run_bind, run_underlying hu w, Result.andThen_ok]
  simp only []
  rw [Sem.run_bind, key, Result.andThen_ok]
  simp [sizeOf, typeInfo, hi]

theorem bndK_ok (hr : Rel w0 c0 n F a w col blk) {x : Option Operand} {b : Option Int} (h : bndK tt (getE F.v) x = some b) :
    (x = none ∧ b = none) ∨ ∃ y k i, x = some y ∧ b = some i ∧ a.eval y = .int k i := by
  cases x with
  | none => simp only [bndK, Option.some.injEq] at h; exact .inl ⟨rfl, h.symm⟩
  | some y =>
    simp only [bndK] at h
    split at h
    · rename_i i hi
      simp only [Option.some.injEq] at h
      obtain ⟨k, own, he⟩ := intOfE_some hi
      have := opn (tt := tt) hr 0 y
      rw [he] at this
      exact .inr ⟨y, k, i, rfl, h.symm, repV_int this.1⟩
    · cases h

theorem bndK_none (hr : Rel w0 c0 n F a w col blk) {x : Option Operand} (h : bndK tt (getE F.v) x = some none) : x = none := by
  rcases bndK_ok hr h with ⟨e, _⟩ | ⟨_, _, _, _, e, _⟩
  · exact e
  · simp at e

theorem bndK_some (hr : Rel w0 c0 n F a w col blk) {x : Option Operand} {i : Int} (h : bndK tt (getE F.v) x = some (some i)) : ∃ y k, x = some y ∧ a.eval y = .int k i := by
  rcases bndK_ok hr h with ⟨_, e⟩ | ⟨y, k, j, e, e2, e3⟩
  · simp at e
  · simp only [Option.some.injEq] at e2; subst e2; exact ⟨y, k, e, e3⟩

theorem sameC_eq {hi mx : Option Operand} {r m : Int} (hh : bndK tt (getE F.v) hi = some (some r)) (hm : bndK tt (getE F.v) mx = some (some m)) (h : sameC hi mx = true) : r = m := by
  unfold sameC at h
  split at h
  · rename_i k a k' b
    simp only [bndK, ent, constE, intOfE, Option.some.injEq] at hh hm
    have := beq_iff_eq.1 h
    omega
  · cases h

theorem slice_ok (hT : TTok P tt) {t : Nat} {x : Operand} {lo hi mx : Option Operand} (hop : o.op = .slice t x lo hi mx) (hr : Rel w0 c0 n F a w col blk) (hd : ∀ d, o.dst = some d → d < n)
    (h : core Γ tt tr (getE F.v) (getB F.b) o some = some δ) : Good P w0 c0 n (F.app δ) o a w := by
  have hx := opn (tt := tt) hr t x
  unfold core at h
  simp only [hop] at h
  unfold sliceK at h
  split at h
  · rename_i e xs0 own ti hxe hl
    obtain ⟨xs, rfl⟩ : ∃ ys : List e.den, ys = xs0 := ⟨xs0, rfl⟩
    rw [hxe] at hx
    cases hty : decide (ti.ty = .sl e) with
    | false => rw [hty] at h; cases h
    | true =>
      rw [hty] at h
      simp only [cond_true] at h
      have hti := hT t ti hl
      have hdesc := hti.desc
      rw [of_decide_eq_true hty] at hdesc
      obtain ⟨hu, te, hte, hee⟩ := hdesc
      obtain ⟨i, z, hi', hsz, _⟩ := (hT ti.elem te hte).info
      rw [hee] at hsz
      obtain ⟨p, len, cap, hv, hlen, hcap, hpspot, hcut⟩ := repV_cut (e := e) (xs := xs) hx.1
      have hrun : ∀ {v}, (Instr.sliceAt t (a.eval x) (lo.map a.eval) (hi.map a.eval) (mx.map a.eval)).run P w = .ok v w → (execOp a.eval o).run P w = .ok (.value v) w := fun {v} hh => by
        unfold execOp; rw [hop]; exact run_v hh
      have fin : ∀ (l r m : Nat) (ys : List e.den), ys = (xs.take r).drop l → Bd (lo.map a.eval) 0 l → Bd (hi.map a.eval) len r → Bd (mx.map a.eval) cap m → (mx.map a.eval ≠ none → hi.map a.eval ≠ none) → l ≤ r → r ≤ m → m ≤ cap → r ≤ xs.length →
          ∀ ow : Bool, (ow = true → r = m) → put o some (cutE ow ⟨.sl e, ys⟩) [] = some δ → Good P w0 c0 n (F.app δ) o a w := fun l r m ys hys h1 h2 h3 h4 h5 h6 h7 h8 ow how hput => by
        have hc := run_cut (P := P) (w := w) hu hi' p len cap _ _ _ l r m h1 h2 h3 h4 h5 h6 h7
        rw [← hv] at hc
        have hrep : RepV w (Imm col) (.sl e) ys (.slice (if m = l then p else p.map (·.add (l * i.size))) (r - l) (m - l)) := by
          subst hys
          rw [hsz]
          exact hcut l r m h5 h8 h6 h7
        refine good_put0 hr hput hd (hrun hc) fun _ => ?_
        cases ow with
        | false => exact ⟨hrep, fun h => by cases h⟩
        | true => exact ⟨hrep, _, r - l, by rw [how rfl]⟩
      split at h
      · rename_i h1 h2 h3
        obtain rfl := bndK_none hr h1
        obtain rfl := bndK_none hr h2
        obtain rfl := bndK_none hr h3
        have hc := run_cut (P := P) (w := w) hu hi' p len cap none none none 0 len cap (.inl ⟨rfl, rfl⟩) (.inl ⟨rfl, rfl⟩) (.inl ⟨rfl, rfl⟩) (by simp) (Nat.zero_le _) hcap (Nat.le_refl _)
        have hvv : (.slice (if cap = 0 then p else p.map (·.add (0 * i.size))) (len - 0) (cap - 0) : Value) = a.eval x := by
          rw [hv]
          congr 1
          split
          · rfl
          · cases p with
            | none => rfl
            | some q => simp [Addr.add]
        rw [hvv, ← hv] at hc
        cases hot : own && tr with
        | false =>
          rw [hot] at h
          exact good_put0 hr h hd (hrun hc) fun _ => ⟨hx.1, fun h => by simp at h⟩
        | true =>
          rw [hot] at h
          obtain ⟨d', hdst, rfl⟩ := put_some h
          have : own = true := by cases own <;> simp_all
          subst this
          cases x with
          | tmp s =>
            refine good_of (col' := recolor col (.sp s) (.sp d')) (blk' := blk) (hrun hc) ?_
            rw [hdst]
            exact hr.hand hxe (hd d' hdst) (fun h1 h2 => ⟨h1, fun _ => h2⟩) hx.1
          | const c =>
            have hc' : ent tt (getE F.v) t (.const c) = constE tt t c := rfl
            have hk := const_ok (w := w) (col := col) (blk := blk) (w0 := w0) (tt := tt) t c d'
            rw [← hc', hxe] at hk
            refine good_of (col' := col) (blk' := blk) (hrun hc) ?_
            rw [hdst]
            exact hr.put0 (hd d' hdst) hk
          | func f => simp [ent] at hxe
          | global g => simp [ent] at hxe
      · rename_i l h1 h2 h3
        obtain ⟨y, ky, rfl, hey⟩ := bndK_some hr h1
        obtain rfl := bndK_none hr h2
        obtain rfl := bndK_none hr h3
        cases hb : decide (0 ≤ l) && decide (l ≤ xs.length) with
        | false => rw [hb] at h; cases h
        | true =>
          rw [hb] at h
          simp only [Bool.and_eq_true, decide_eq_true_eq] at hb
          exact fin l.toNat len cap _ (by rw [hlen, List.take_length]) (.inr ⟨ky, l, by simp [hey], hb.1, rfl⟩) (.inl ⟨rfl, rfl⟩) (.inl ⟨rfl, rfl⟩) (by simp) (by omega) hcap (Nat.le_refl _) (by omega) false (fun hs => by cases hs) h
      · rename_i r h1 h2 h3
        obtain rfl := bndK_none hr h1
        obtain ⟨y, ky, rfl, hey⟩ := bndK_some hr h2
        obtain rfl := bndK_none hr h3
        cases hb : decide (0 ≤ r) && decide (r ≤ xs.length) with
        | false => rw [hb] at h; cases h
        | true =>
          rw [hb] at h
          simp only [Bool.and_eq_true, decide_eq_true_eq] at hb
          exact fin 0 r.toNat cap _ (by simp) (.inl ⟨rfl, rfl⟩) (.inr ⟨ky, r, by simp [hey], hb.1, rfl⟩) (.inl ⟨rfl, rfl⟩) (by simp) (by omega) (by omega) (Nat.le_refl _) (by omega) false (fun hs => by cases hs) h
      · rename_i l r h1 h2 h3
        obtain ⟨y, ky, rfl, hey⟩ := bndK_some hr h1
        obtain ⟨y2, ky2, rfl, hey2⟩ := bndK_some hr h2
        obtain rfl := bndK_none hr h3
        cases hb : decide (0 ≤ l) && decide (l ≤ r) && decide (r ≤ xs.length) with
        | false => rw [hb] at h; cases h
        | true =>
          rw [hb] at h
          simp only [Bool.and_eq_true, decide_eq_true_eq] at hb
          exact fin l.toNat r.toNat cap _ rfl (.inr ⟨ky, l, by simp [hey], hb.1.1, rfl⟩) (.inr ⟨ky2, r, by simp [hey2], by omega, rfl⟩) (.inl ⟨rfl, rfl⟩) (by simp) (by omega) (by omega) (Nat.le_refl _) (by omega) false (fun hs => by cases hs) h
      · rename_i r m h1 h2 h3
        obtain rfl := bndK_none hr h1
        obtain ⟨y2, ky2, rfl, hey2⟩ := bndK_some hr h2
        obtain ⟨y3, ky3, rfl, hey3⟩ := bndK_some hr h3
        cases hb : decide (0 ≤ r) && decide (r ≤ m) && decide (m ≤ xs.length) with
        | false => rw [hb] at h; cases h
        | true =>
          rw [hb] at h
          simp only [Bool.and_eq_true, decide_eq_true_eq] at hb
          exact fin 0 r.toNat m.toNat _ (by simp) (.inl ⟨rfl, rfl⟩) (.inr ⟨ky2, r, by simp [hey2], hb.1.1, rfl⟩) (.inr ⟨ky3, m, by simp [hey3], by omega, rfl⟩) (by simp) (by omega) (by omega) (by omega) (by omega) (sameC _ _) (fun hs => by rw [sameC_eq h2 h3 hs]) h
      · rename_i l r m h1 h2 h3
        obtain ⟨y, ky, rfl, hey⟩ := bndK_some hr h1
        obtain ⟨y2, ky2, rfl, hey2⟩ := bndK_some hr h2
        obtain ⟨y3, ky3, rfl, hey3⟩ := bndK_some hr h3
        cases hb : decide (0 ≤ l) && decide (l ≤ r) && decide (r ≤ m) && decide (m ≤ xs.length) with
        | false => rw [hb] at h; cases h
        | true =>
          rw [hb] at h
          simp only [Bool.and_eq_true, decide_eq_true_eq] at hb
          exact fin l.toNat r.toNat m.toNat _ rfl (.inr ⟨ky, l, by simp [hey], hb.1.1.1, rfl⟩) (.inr ⟨ky2, r, by simp [hey2], by omega, rfl⟩) (.inr ⟨ky3, m, by simp [hey3], by omega, rfl⟩) (by simp) (by omega) (by omega) (by omega) (by omega) (sameC _ _) (fun hs => by rw [sameC_eq h2 h3 hs]) h
      · cases h
  · cases h

/-! ### addresses, fields -/
end
end Go.Ev
