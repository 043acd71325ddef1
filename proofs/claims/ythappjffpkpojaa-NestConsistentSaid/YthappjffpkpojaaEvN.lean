/-
  THE EVALUATOR, PART N: laws: from what a row gives of the arguments to the evaluator's data, and from a contract that answers 'true' to the row.
-/
import Derived.Test.YthappjffpkpojaaEvM
import Derived.ProofKit
import Derived.LaidMore
import Derived.OpenShut
import Derived.Handed
namespace Go.Ev
open Go Go.RowKit
set_option linter.unusedVariables false
set_option linter.unusedSimpArgs false

/-! ## Fit data -/
def WfD : (t : Ty) → t.den → Prop
  | .int k, n => k.min ≤ n ∧ n ≤ k.max
  | .bool, _ => True
  | .str, s => s.size ≤ maxLen
  | .sl e, xs => xs.length ≤ maxLen ∧ ∀ x ∈ xs, WfD e x
  | .unit, _ => True
  | .pair a b, x => WfD a x.1 ∧ WfD b x.2

def WfA : (as : List ATy) → DenA as → Prop
  | [], _ => True
  | .v t :: r, x => WfD t x.1 ∧ WfA r x.2
  | .pk t :: r, x => WfD t x.1 ∧ WfA r x.2
  | .cl _ _ :: r, x => WfA r x.2

/-! ## The fields of a type, in their order -/
def layB : List (Nat × Nat × Ty) → Ty → Nat → Bool
  | [], .unit, _ => true
  | (o, _, t) :: r, .pair a b, n => Nat.beq o n && decide (t = a) && layB r b (n + a.size)
  | _, _, _ => false

def layTI (ti : TI) : Bool := bif ti.ty.agg then layB ti.flds ti.ty 0 && (Nat.beq ti.len 0 || Nat.beq ti.flds.length ti.len) else true
def layTT (tt : TT) : Bool := tt.all fun p => layTI p.2

/-- Slices with flat elements alone. -/
def Ty.shal : Ty → Bool
  | .sl e => e.flat
  | .pair a b => a.shal && b.shal
  | _ => true

theorem Ty.shal_of_flat : ∀ {t : Ty}, t.flat = true → t.shal = true
  | .sl _, h => by simp [Ty.flat] at h
  | .pair a b, h => by
    simp only [Ty.flat, Bool.and_eq_true] at h
    simp [Ty.shal, shal_of_flat h.1, shal_of_flat h.2]
  | .int _, _ | .bool, _ | .str, _ | .unit, _ => rfl

/-- An address of a slice that is no part of a string or a boxed value. -/
def SpotOk (v : Value) : Prop := ∀ a n c, v = .slice (some a) n c → a.spot = none

section
variable {P : Program} {tt : TT} {w : World} {H : Type} {enc : TypeId × Value → H} {sp : Nat → Bool}

theorem lay_rep {I : Nat → Nat → Prop} : ∀ {fl : List (Nat × Nat × Ty)} {t : Ty} {n : Nat}, layB fl t n = true → ∀ {cs : List Value}, cs.length = n + t.size →
    (∀ (j : Nat) off ft fty, fl[j]? = some (off, ft, fty) → ∃ x : fty.den, RepC w I fty x ((cs.drop off).take fty.size) ∧ WfD fty x) → ∃ x : t.den, RepC w I t x (cs.drop n) ∧ WfD t x
  | [], .unit, n, _, cs, hl, _ => ⟨(), by
      simp only [Ty.size, Nat.add_zero] at hl
      simp only [RepC]
      rw [List.drop_eq_nil_iff]
      omega, trivial⟩
  | (o, g, t) :: r, .pair a b, n, h, cs, hl, hf => by
    simp only [layB, Bool.and_eq_true, Nat.beq_eq, decide_eq_true_eq] at h
    obtain ⟨⟨rfl, rfl⟩, h⟩ := h
    obtain ⟨x, hx, wx⟩ := hf 0 _ _ _ rfl
    obtain ⟨y, hy, wy⟩ := lay_rep (I := I) h (cs := cs) (by rw [hl]; simp only [Ty.size]; omega) (fun j off ft fty hj => hf (j + 1) off ft fty (by simpa using hj))
    refine ⟨(x, y), ⟨_, _, hx, hy, ?_⟩, wx, wy⟩
    rw [← List.drop_drop, List.take_append_drop]
  | [], .pair _ _, _, h, _, _, _ => by simp [layB] at h
  | [], .int _, _, h, _, _, _ | [], .bool, _, h, _, _, _ | [], .str, _, h, _, _, _ | [], .sl _, _, h, _, _, _ => by simp [layB] at h
  | _ :: _, .unit, _, h, _, _, _ | _ :: _, .int _, _, h, _, _, _ | _ :: _, .bool, _, h, _, _, _ | _ :: _, .str, _, h, _, _, _ | _ :: _, .sl _, _, h, _, _, _ => by simp [layB] at h

theorem cells_of {t : Nat} {ti : TI} (hT : TTok P tt) (hl : tt.look t = some ti) : P.cellsOf t = ti.ty.size := by
  obtain ⟨i, z, h1, h2, _⟩ := (hT t ti hl).info
  simp [Program.cellsOf, h1, h2]

theorem add_none (b o i : Nat) : Addr.add ⟨b, o, none⟩ i = ⟨b, o + i, none⟩ := by
  unfold Addr.add
  split
  · rename_i h; rw [h]; rfl
  · rfl

theorem repL_of {α : Type} {rep : α → List Value → Prop} {Q : α → Prop} : ∀ {n : Nat} {f : Nat → List Value}, (∀ i, i < n → ∃ x, rep x (f i) ∧ Q x) →
    ∃ xs : List α, xs.length = n ∧ RepL rep xs ((List.range n).flatMap f) ∧ ∀ x ∈ xs, Q x
  | 0, f, _ => ⟨[], rfl, rfl, by simp⟩
  | n + 1, f, h => by
    obtain ⟨x, hx, qx⟩ := h 0 (by omega)
    obtain ⟨xs, hl, hr, hq⟩ := repL_of (n := n) (f := fun i => f (i + 1)) (fun i hi => h (i + 1) (by omega))
    refine ⟨x :: xs, by simp [hl], ⟨_, _, hx, hr, ?_⟩, fun y hy => ?_⟩
    · rw [List.range_succ_eq_map, List.flatMap_cons, List.flatMap_map]
    · rcases List.mem_cons.1 hy with rfl | hy
      · exact qx
      · exact hq y hy

theorem flatMap_get {f : Nat → List Value} {k : Nat} (hk : ∀ i, (f i).length = k) : ∀ {n j : Nat} {v : Value}, ((List.range n).flatMap f)[j]? = some v → ∃ i r, i < n ∧ r < k ∧ j = i * k + r ∧ (f i)[r]? = some v
  | 0, j, v, h => by simp at h
  | n + 1, j, v, h => by
    rw [List.range_succ, List.flatMap_append] at h
    have hl : ((List.range n).flatMap f).length = n * k := by
      clear h
      induction n with
      | zero => simp
      | succ n ih => rw [List.range_succ, List.flatMap_append, List.length_append, ih]; simp [hk, Nat.succ_mul]
    by_cases hj : j < n * k
    · rw [List.getElem?_append_left (by omega)] at h
      obtain ⟨i, r, h1, h2, h3, h4⟩ := flatMap_get hk h
      exact ⟨i, r, by omega, h2, h3, h4⟩
    · rw [List.getElem?_append_right (by omega), hl] at h
      simp only [List.flatMap_cons, List.flatMap_nil, List.append_nil] at h
      refine ⟨n, j - n * k, by omega, ?_, by omega, h⟩
      have := (List.getElem?_eq_some_iff.1 h).1
      rw [hk] at this
      exact this

/-- READING: what a row's reading takes is the evaluator's data. -/
theorem trod_rep (hT : TTok P tt) (hL : layTT tt = true) : ∀ (fuel : Nat) (t : Nat) (ti : TI) (cs : List Value) (y : DataW H × List MemPlace), tt.look t = some ti → ti.ty.shal = true →
    (ti.ty.flat = true ∨ ∀ v ∈ cs, SpotOk v) → DataW.trod enc P w 0 sp true fuel t cs = some y → ∃ x : ti.ty.den, RepC w (fun _ _ => True) ti.ty x cs ∧ WfD ti.ty x := by
  intro fuel
  induction fuel with
  | zero => intro t ti cs y _ _ _ h; simp [DataW.trod] at h
  | succ fuel ih =>
  intro t ti cs y hl hs hsp h
  have hlay : layTI ti = true := List.all_eq_true.1 hL (t, ti) (look_mem hl)
  have hdesc := (hT t ti hl).desc
  have hcell := cells_of hT hl
  have agg : ti.ty.agg = true → ∃ x : ti.ty.den, RepC w (fun _ _ => True) ti.ty x cs ∧ WfD ti.ty x := by
    intro ha
    have hd : (ti.len = 0 ∧ ∃ fs, P.underlying t = some (.struct fs) ∧ FldsOk P tt ti.flds fs) ∨
        (ti.len ≠ 0 ∧ ∃ te, P.underlying t = some (.array ti.len ti.elem) ∧ tt.look ti.elem = some te ∧ (∀ e r, ti.ty = .pair e r → te.ty = e) ∧
          ∀ (j : Nat) off ft fty, ti.flds[j]? = some (off, ft, fty) → off = j * te.ty.size ∧ ft = ti.elem ∧ fty = te.ty) := by
      revert hdesc
      cases hty : ti.ty <;> simp [hty, Ty.agg] at ha ⊢
    simp only [layTI, ha, cond_true, Bool.and_eq_true, Bool.or_eq_true, Nat.beq_eq] at hlay
    -- the parts of a type are as shallow as the type
    have sub : ∀ {fl : List (Nat × Nat × Ty)} {t : Ty} {n : Nat}, layB fl t n = true → ∀ (j : Nat) off ft fty, fl[j]? = some (off, ft, fty) → (t.shal = true → fty.shal = true) ∧ (t.flat = true → fty.flat = true) := by
      intro fl
      induction fl with
      | nil => intro t n _ j off ft fty hj; simp at hj
      | cons f r ihf =>
        intro t n hb j off ft fty hj
        obtain ⟨o, g, u⟩ := f
        cases t with
        | pair a b =>
          simp only [layB, Bool.and_eq_true, Nat.beq_eq, decide_eq_true_eq] at hb
          obtain ⟨⟨_, rfl⟩, hb⟩ := hb
          cases j with
          | zero =>
            simp only [List.getElem?_cons_zero, Option.some.injEq, Prod.mk.injEq] at hj
            obtain ⟨_, _, rfl⟩ := hj
            simp only [Ty.shal, Ty.flat, Bool.and_eq_true]
            exact ⟨fun h => h.1, fun h => h.1⟩
          | succ j =>
            have := ihf hb j off ft fty (by simpa using hj)
            simp only [Ty.shal, Ty.flat, Bool.and_eq_true]
            exact ⟨fun h => this.1 h.2, fun h => this.2 h.2⟩
        | _ => simp [layB] at hb
    have hsp' : ∀ {fty : Ty} (off : Nat), (ti.ty.flat = true → fty.flat = true) → (fty.flat = true ∨ ∀ v ∈ (cs.drop off).take fty.size, SpotOk v) := fun off hf => by
      rcases hsp with h | h
      · exact .inl (hf h)
      · exact .inr fun v hv => h v (List.mem_of_mem_drop (List.mem_of_mem_take hv))
    rcases hd with ⟨h0, fs, hu, hf⟩ | ⟨h0, te, hu, hte, _, hf⟩
    · obtain ⟨xs, n, hn, _, hlen, hxl, hel⟩ := DataW.trod_struct hu h
      obtain rfl : n = fuel := by omega
      obtain ⟨x, hx, wx⟩ := lay_rep (w := w) (I := fun _ _ => True) hlay.1 (cs := cs) (by rw [hlen, hcell]; omega) (fun j off ft fty hj => by
        obtain ⟨f, hfj, rfl, rfl, tf, htf, rfl⟩ := hf.2 j off ft fty hj
        have hsub := sub hlay.1 j _ _ _ hj
        have hjx := hel j f hfj
        have hjl : j < xs.length := by rw [hxl, ← hf.1]; exact (List.getElem?_eq_some_iff.1 hj).1
        rw [List.getElem?_eq_getElem hjl, cells_of hT htf] at hjx
        exact ih _ tf _ _ htf (hsub.1 hs) (hsp' _ hsub.2) hjx)
      exact ⟨x, by simpa using hx, wx⟩
    · obtain ⟨xs, n, hn, _, hlen, hxl, hel⟩ := DataW.trod_array hu h
      obtain rfl : n = fuel := by omega
      obtain ⟨x, hx, wx⟩ := lay_rep (w := w) (I := fun _ _ => True) hlay.1 (cs := cs) (by rw [hlen, hcell]; omega) (fun j off ft fty hj => by
        have hsub := sub hlay.1 j _ _ _ hj
        obtain ⟨rfl, rfl, rfl⟩ := hf j off ft fty hj
        have hfl : ti.flds.length = ti.len := by
          rcases hlay.2 with h | h
          · exact absurd h h0
          · exact h
        have hjl : j < ti.len := by rw [← hfl]; exact (List.getElem?_eq_some_iff.1 hj).1
        have hjx := hel j hjl
        rw [List.getElem?_eq_getElem (by rw [hxl]; exact hjl), cells_of hT hte] at hjx
        exact ih _ te _ _ hte (hsub.1 hs) (hsp' _ hsub.2) hjx)
      exact ⟨x, by simpa using hx, wx⟩
  obtain ⟨ty, elem, bytes, flds, len, eqok⟩ := ti
  simp only at *
  match ty, agg, hdesc, hs, hsp, hcell with
  | .int k, _, hu, _, _, _ =>
    obtain ⟨n, rfl, _, hw⟩ := DataW.trod_int hu h
    refine ⟨n, rfl, ?_⟩
    simp only [Lit.wf, Bool.and_eq_true, decide_eq_true_eq] at hw
    exact hw
  | .bool, _, hu, _, _, _ =>
    obtain ⟨b, rfl, _⟩ := DataW.trod_bool hu h
    exact ⟨b, rfl, trivial⟩
  | .str, _, hu, _, _, _ =>
    obtain ⟨s, rfl, _, hz⟩ := DataW.trod_string hu h
    exact ⟨s, rfl, hz⟩
  | .sl e, _, hu, hs, hsp, _ =>
    obtain ⟨hu, te, hte, rfl⟩ := hu
    have hs' : te.ty.flat = true := by simpa [Ty.shal] using hs
    rcases DataW.trod_slice hu h with ⟨rfl, _⟩ | ⟨a, len', cap, elems, rest, n, hn, rfl, _, _, hlc, hcm, hel, hget, _⟩
    · exact ⟨[], ⟨_, rfl, .inl ⟨rfl, rfl⟩⟩, by simp [maxLen], by simp⟩
    · obtain rfl : n = fuel := by omega
      have hspot : a.spot = none := by
        rcases hsp with h | h
        · simp [Ty.flat] at h
        · exact h _ (by simp) a len' cap rfl
      rw [cells_of hT hte] at hget
      have each : ∀ i, i < len' → ∃ ci, w.cells? 0 (a.add (i * te.ty.size)) te.ty.size = some ci ∧ ∃ x : te.ty.den, RepC w (fun _ _ => True) te.ty x ci ∧ WfD te.ty x := fun i hi => by
        have := hget i hi
        rw [List.getElem?_eq_getElem (by omega), Option.bind_eq_some_iff] at this
        obtain ⟨ci, h1, h2⟩ := this
        exact ⟨ci, h1, ih _ te ci _ hte (Ty.shal_of_flat hs') (.inl hs') h2⟩
      let f : Nat → List Value := fun i => (w.cells? 0 (a.add (i * te.ty.size)) te.ty.size).getD (List.replicate te.ty.size undef)
      have hflen : ∀ i, (f i).length = te.ty.size := fun i => by
        show ((w.cells? 0 (a.add (i * te.ty.size)) te.ty.size).getD _).length = _
        cases hc : w.cells? 0 (a.add (i * te.ty.size)) te.ty.size with
        | none => simp
        | some ci => simpa using (World.cells?_some hc).2.1
      obtain ⟨xs, hxl, hxr, hxw⟩ := repL_of (rep := RepC w (fun _ _ => True) te.ty) (Q := WfD te.ty) (n := len') (f := f) (fun i hi => by
        obtain ⟨ci, h1, x, h2, h3⟩ := each i hi
        exact ⟨x, by show RepC _ _ _ _ ((w.cells? 0 (a.add (i * te.ty.size)) te.ty.size).getD _); rw [h1]; exact h2, h3⟩)
      obtain ⟨b, o, s⟩ := a
      simp only at hspot
      subst hspot
      refine ⟨xs, ⟨_, rfl, .inr ⟨b, o, cap, _, by rw [hxl], by omega, hxr, fun j v hj => ?_, fun _ _ => trivial⟩⟩, by omega, hxw⟩
      obtain ⟨i, r, hi, hr, rfl, hv⟩ := flatMap_get hflen hj
      obtain ⟨ci, h1, _⟩ := each i hi
      have hfi : f i = ci := by show (w.cells? 0 _ _).getD _ = _; rw [h1]; rfl
      rw [hfi] at hv
      have := (World.cells?_some h1).2.2 r hr
      rw [hv] at this
      rw [add_none, add_none, Nat.add_assoc] at this
      exact this
  | .unit, agg, _, _, _, _ => exact agg rfl
  | .pair a b, agg, _, _, _, _ => exact agg rfl

/-- READING BY VALUE. -/
theorem spot_cell {r : Reach} {b0 : Nat} {u : TypeId} {a : Addr} {n c : Nat} (h : Cell.okWide P w r b0 u (.slice (some a) n c)) : a.spot = none := by
  unfold Cell.okWide at h
  split at h
  all_goals first
    | (rename_i h1; cases h1; done)
    | (rename_i h1 _; cases h1; done)
    | skip
  all_goals try contradiction
  unfold Cell.ok at h
  split at h
  all_goals try contradiction
  all_goals try (exfalso; exact h)
  all_goals rename_i h2
  all_goals try cases h2
  all_goals exact h.2.2.2.1

theorem open_val (hT : TTok P tt) (hL : layTT tt = true) {r : Reach} {b0 t : Nat} {ti : TI} {v : Value} {d : DataW H} {ps : List MemPlace} (hl : tt.look t = some ti) (hs : ti.ty.shal = true)
    (hok : Value.okWide P w r b0 t v) (h : DataW.Trod enc P w 0 sp true t v d ps) : ∃ x : ti.ty.den, RepV w (fun _ _ => True) ti.ty x v ∧ WfD ti.ty x := by
  obtain ⟨fuel, h⟩ := h
  have hdesc := (hT t ti hl).desc
  unfold Value.okWide at hok
  cases ha : ti.ty.agg with
  | true =>
    have hok' : ∃ cs, v = .agg cs ∧ cs.size = P.cellsOf t ∧ Row.okWide P w r b0 t cs := by
      have hd : (∃ fs, P.underlying t = some (.struct fs)) ∨ ∃ n e, P.underlying t = some (.array n e) := by
        clear h hok
        obtain ⟨ty, elem, bytes, flds, len, eqok⟩ := ti
        cases ty <;> simp only [Ty.agg, Bool.false_eq_true] at ha <;> simp only at hdesc
        all_goals
          rcases hdesc with ⟨_, fs, h, _⟩ | ⟨_, te, h, _⟩
          · exact .inl ⟨fs, h⟩
          · exact .inr ⟨_, _, h⟩
      rcases hd with ⟨fs, hu⟩ | ⟨n, e, hu⟩ <;> (rw [hu] at hok; exact hok)
    obtain ⟨cs, rfl, _, ts, _, _, hrow⟩ := hok'
    obtain ⟨x, hx, wx⟩ := trod_rep hT hL fuel t ti _ _ hl hs (.inr fun c hc a n cp hcv => by
      obtain ⟨i, hi⟩ := List.getElem?_of_mem hc
      subst hcv
      obtain ⟨u, _, hu⟩ := hrow i _ (by simpa [Value.cells] using hi)
      exact spot_cell hu) h
    exact ⟨x, ⟨_, hx, .inl ⟨ha, by simp [Value.cells]⟩⟩, wx⟩
  | false =>
    have hok' : Cell.okWide P w r b0 t v ∧ ∀ cs, v ≠ .agg cs := by
      clear h
      obtain ⟨ty, elem, bytes, flds, len, eqok⟩ := ti
      cases ty <;> simp only [Ty.agg, Bool.true_eq_false] at ha <;> simp only at hdesc
      case sl e =>
        rw [hdesc.1] at hok
        refine ⟨hok, fun cs hc => ?_⟩
        subst hc
        simp [Cell.okWide, Cell.ok, hdesc.1] at hok
      all_goals
        rw [hdesc] at hok
        refine ⟨hok, fun cs hc => ?_⟩
        subst hc
        simp [Cell.okWide, Cell.ok, hdesc] at hok
    obtain ⟨hok', hna⟩ := hok'
    have hv : v.cells.toList = [v] := by
      cases v with
      | agg cs => exact absurd rfl (hna cs)
      | _ => rfl
    obtain ⟨x, hx, wx⟩ := trod_rep hT hL fuel t ti _ _ hl hs (.inr fun c hc a n cp hcv => by
      rw [hv] at hc
      obtain rfl : c = v := by simpa using hc
      subst hcv
      exact spot_cell hok') h
    rw [hv] at hx
    exact ⟨x, ⟨_, hx, .inr ⟨ha, rfl⟩⟩, wx⟩

def c1 : Col := fun _ _ => .imm
theorem imm_c1 : Imm (oldCol c1) = fun _ _ => True := by
  funext b o
  simp [Imm, oldCol, c1]

def argsB (tt : TT) : List TypeId → List ATy → Bool
  | [], [] => true
  | t :: r, .v u :: r' => (match tt.look t with | some ti => decide (ti.ty = u) && u.shal | none => false) && argsB tt r r'
  | _, _ => false

theorem open_args (hT : TTok P tt) (hL : layTT tt = true) {r : Reach} {b0 : Nat} : ∀ {ts : List TypeId} {as : List ATy} {vs : List Value} {ds : List (DataW H)} {ps : List MemPlace}, argsB tt ts as = true →
    (∀ (j : Nat) t v, ts[j]? = some t → vs[j]? = some v → Value.okWide P w r b0 t v) → DataW.TrodAll enc P w 0 sp true ts vs ds ps → ∃ x : DenA as, ArgsRep w (oldCol c1) as x vs ∧ WfA as x
  | [], [], vs, ds, ps, _, _, h => by
    cases vs with
    | nil => exact ⟨(), rfl, trivial⟩
    | cons _ _ => cases ds <;> simp [DataW.TrodAll] at h
  | t :: ts, .v u :: as, vs, ds, ps, hb, hok, h => by
    cases vs with
    | nil => cases ds <;> simp [DataW.TrodAll] at h
    | cons v vs =>
      cases ds with
      | nil => simp [DataW.TrodAll] at h
      | cons d ds =>
        obtain ⟨p, q, h1, h2, _⟩ := h
        simp only [argsB, Bool.and_eq_true] at hb
        obtain ⟨hb1, hb2⟩ := hb
        split at hb1
        · rename_i ti hl
          simp only [Bool.and_eq_true, decide_eq_true_eq] at hb1
          obtain ⟨rfl, hs⟩ := hb1
          obtain ⟨x, hx, wx⟩ := open_val hT hL hl hs (hok 0 t v rfl rfl) h1
          obtain ⟨y, hy, wy⟩ := open_args hT hL hb2 (fun j t' v' h1 h2 => hok (j + 1) t' v' (by simpa using h1) (by simpa using h2)) h2
          exact ⟨(x, y), ⟨v, vs, rfl, by show RepV _ _ _ _ _; rw [imm_c1]; exact hx, hy⟩, wx, wy⟩
        · cases hb1
  | [], _ :: _, _, _, _, hb, _, _ => by simp [argsB] at hb
  | _ :: _, [], _, _, _, hb, _, _ => by simp [argsB] at hb
  | _ :: _, .pk _ :: _, _, _, _, hb, _, _ => by simp [argsB] at hb
  | _ :: _, .cl _ _ :: _, _, _, _, hb, _, _ => by simp [argsB] at hb

/-! ## Shutting -/
theorem trodAll_below {W W' : World} (hl : laidOutB P = true) (hb : Below W.heap.size W W') : ∀ {ts : List TypeId} {vs : List Value} {ds : List (DataW H)} {ps : List MemPlace},
    (ts.all fun t => P.readableRec t && decide (t < P.types.size)) = true → (∀ x ∈ ps, x.block < W.heap.size) →
    DataW.TrodAll enc P W 0 (fun _ => true) true ts vs ds ps → DataW.TrodAll enc P W' 0 (fun b => decide (b < W.heap.size)) true ts vs ds ps
  | [], vs, ds, ps, _, _, h => by
    cases vs <;> cases ds <;> simp only [DataW.TrodAll] at h ⊢
    exact h
  | t :: ts, vs, ds, ps, hc, hlt, h => by
    cases vs with
    | nil => cases ds <;> simp [DataW.TrodAll] at h
    | cons v vs =>
      cases ds with
      | nil => simp [DataW.TrodAll] at h
      | cons d ds =>
        obtain ⟨p, q, h1, h2, rfl⟩ := h
        simp only [List.all_cons, Bool.and_eq_true, decide_eq_true_eq] at hc
        exact ⟨p, q, Below.trod hl hc.1.1 hc.1.2 h1 hb (fun x hx => hlt x (by simp [hx])), trodAll_below hl hb (by simpa using hc.2) (fun x hx => hlt x (by simp [hx])) h2, rfl⟩

/-- THE LAW: a contract that answers 'true' for all fit arguments is what a row's contract asks. -/
theorem law_contract {J : World → Prop} {s : ChangeSpec} {f : FuncId} {fn : Func} {as : List ATy} {g : DenA as → Option Bool} {apart fresh handsOn : Bool} (hT : TTok P tt) (hL : layTT tt = true) (hlaid : laidOutB P = true)
    (hs : SoundC P J ⟨f, as, [.bool], false, g, none⟩) (hA : argsB tt fn.params.toList as = true) (hread : (fn.params.toList.all fun t => P.readableRec t && decide (t < P.types.size)) = true)
    (hres : ∃ rt, fn.resultTypes = #[rt] ∧ P.underlying rt = some .bool) (hvars : s.vars = []) (hfn : ∀ x, WfA as x → g x = some true)
    (hspec : ∀ ds : List (DataW H), ds.length = fn.params.size → s.fn H ds = { results := [.lit (.bool true)], args := ds })
    {W : World} {base : Nat} {args : Array Value} {ds gs : List (DataW H)} {before : List MemPlace} (hJ : J W)
    (hval : ∀ (j : Nat) t v, fn.params[j]? = some t → args[j]? = some v → Value.okWide P W .any base t v)
    (hW : DataW.Whole enc P fn.params.toList s.vars apart W args.toList ds gs before) :
    Calls P f args W fun e W' => ∃ v, e = .returned v ∧ s.post enc P fn apart fresh handsOn false W args v W' := by
  have hW' := hW
  obtain ⟨p, q, hp, hq, rfl, hfz, hnd⟩ := hW
  rw [hvars] at hq
  have hq' : gs = [] ∧ q = [] := by
    cases gs with
    | nil => exact ⟨rfl, by simpa [DataW.TrodVars] using hq⟩
    | cons _ _ => simp [DataW.TrodVars] at hq
  obtain ⟨rfl, rfl⟩ := hq'
  obtain ⟨x, hx, wx⟩ := open_args hT hL hA (fun j t v h1 h2 => hval j t v (by simpa using h1) (by simpa using h2)) hp
  have hc := hs.calls rfl W c1 args.toList x true hJ (hfn x wx) hx
  rw [Array.toArray_toList] at hc
  refine hc.mono fun e W' hpost => ?_
  obtain ⟨v, col', rfl, hbel, _, hr, _⟩ := hpost
  refine ⟨v, rfl, ?_⟩
  have hv : v = .bool true := by
    obtain ⟨cs, hcs, h⟩ := hr
    simp only [RepC] at hcs
    subst hcs
    rcases h with ⟨h, _⟩ | ⟨_, h⟩
    · simp [Ty.agg] at h
    · simpa using h.symm
  subst hv
  obtain ⟨rt, hrt, hrb⟩ := hres
  have hlen : ∀ {ts : List TypeId} {vs : List Value} {ds : List (DataW H)} {ps : List MemPlace}, DataW.TrodAll enc P W 0 (fun _ => true) true ts vs ds ps → ds.length = ts.length := by
    intro ts
    induction ts with
    | nil => intro vs ds ps h; cases vs <;> cases ds <;> simp_all [DataW.TrodAll]
    | cons t ts ih =>
      intro vs ds ps h
      cases vs with
      | nil => cases ds <;> simp [DataW.TrodAll] at h
      | cons v vs =>
        cases ds with
        | nil => simp [DataW.TrodAll] at h
        | cons d ds =>
          obtain ⟨p, q, _, h2, _⟩ := h
          simp [ih h2]
  have hsp : s.fn H (ds ++ []) = { results := [.lit (.bool true)], args := ds } := by
    rw [List.append_nil]
    exact hspec ds (by rw [hlen hp]; simp)
  refine ⟨ds, [], p ++ [], [], p, [], hW', ?_, ?_, ?_, hbel.frame _, fun h => by cases h⟩
  · rw [hsp, hrt]
    have : (Value.bool true).resultList (#[rt] : Array TypeId).size = [.bool true] := by simp [Value.resultList]
    rw [this]
    exact ⟨[], [], ⟨1, by simp [DataW.trod, hrb, Value.cells]⟩, rfl, rfl⟩
  · rw [hsp]
    exact trodAll_below hlaid hbel hread (fun x hx => by simpa using hW'.lt x (by simpa using hx)) hp
  · rw [hvars, hsp]
    rfl
end
end Go.Ev
