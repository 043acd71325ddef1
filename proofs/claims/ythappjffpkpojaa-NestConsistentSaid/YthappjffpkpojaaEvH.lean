/-
  THE EVALUATOR, PART H: addresses, fields, literals, len, min, max, calls by contract; all operations together ('core_ok').
-/
import Derived.Test.YthappjffpkpojaaEvG
namespace Go.Ev
open Go Go.RowKit
set_option linter.unusedVariables false
set_option linter.unusedSimpArgs false

section
variable {P : Program} {tt : TT} {Γ : List Con} {w0 w w' : World} {c0 : En} {n : Nat} {F : Fr} {a : Act} {col : Col} {blk : Nat → Nat} {o : Oper} {δ : Delta} {tr : Bool}

/-! ### addresses, fields -/
theorem TIok.struct {t : Nat} {ti : TI} (h : TIok P tt t ti) (ha : ti.ty.agg = true) (hl : ti.len = 0) : ∃ fs, P.underlying t = some (.struct fs) ∧ FldsOk P tt ti.flds fs := by
  have hdesc := h.desc
  cases ht : ti.ty <;> rw [ht] at hdesc ha <;> simp only [Ty.agg, Bool.false_eq_true] at hdesc ha
  all_goals
    rcases hdesc with ⟨_, fs, h1, h2⟩ | ⟨h1, _⟩
    · exact ⟨fs, h1, h2⟩
    · exact absurd hl h1

theorem TIok.array {t : Nat} {ti : TI} (h : TIok P tt t ti) (ha : ti.ty.agg = true) (hl : ti.len ≠ 0) : ∃ te, P.underlying t = some (.array ti.len ti.elem) ∧ tt.look ti.elem = some te ∧ (∀ e r, ti.ty = .pair e r → te.ty = e) ∧
          ∀ (j : Nat) off ft fty, ti.flds[j]? = some (off, ft, fty) → off = j * te.ty.size ∧ ft = ti.elem ∧ fty = te.ty := by
  have hdesc := h.desc
  cases ht : ti.ty <;> rw [ht] at hdesc ha <;> simp only [Ty.agg, Bool.false_eq_true] at hdesc ha
  all_goals
    rcases hdesc with ⟨h1, _⟩ | ⟨_, te, h2, h3, h4, h5⟩
    · exact absurd h1 hl
    · exact ⟨te, h2, h3, h4, h5⟩

theorem fieldAddr_ok (hT : TTok P tt) {t f : Nat} {x : Operand} (hop : o.op = .fieldAddr t x f) (hr : Rel w0 c0 n F a w col blk) (hd : ∀ d, o.dst = some d → d < n)
    (h : core Γ tt tr (getE F.v) (getB F.b) o some = some δ) : Good P w0 c0 n (F.app δ) o a w := by
  have hx := opn (tt := tt) hr 0 x
  unfold core at h
  simp only [hop] at h
  unfold fieldAddrK at h
  split at h
  · rename_i ti hl
    split at h
    · rename_i off ft fty hf
      cases hb : Nat.beq fty.size 0 || !Nat.beq ti.len 0 || !ti.ty.agg with
      | true => rw [hb] at h; cases h
      | false =>
        rw [hb] at h
        simp only [Bool.or_eq_false_iff, Bool.not_eq_false'] at hb
        obtain ⟨⟨b1, b2⟩, b3⟩ := hb
        simp only [cond_false] at h
        have hti := hT t ti hl
        obtain ⟨fs, hu, _, hfs⟩ := hti.struct b3 (Nat.eq_of_beq_eq_true b2)
        obtain ⟨g, hg, ho, hgt, tf, htf, hfty⟩ := hfs f off ft fty hf
        obtain ⟨i, z, hi, hsz, _⟩ := (hT ft tf htf).info
        have hne : ¬ i.size = 0 := by
          rw [hsz, hfty]
          intro e0
          rw [e0] at b1
          simp at b1
        have hrun : ∀ {b q}, a.eval x = .pointer (some ⟨b, q, none⟩) → (execOp a.eval o).run P w = .ok (.value (.pointer (some ⟨b, q + off, none⟩))) w := fun {b q} hv => by
          unfold execOp; rw [hop]
          refine run_v ?_
          simp [Instr.fieldAt, run_underlying hu, hg, Instr.sureAddr, hv, fieldPlace, sizeOf, typeInfo, hgt, hi, hne, Addr.add_mid, ho]
        split at h
        · rename_i kk o' he
          rw [he] at hx
          exact good_put0 hr h hd (hrun hx) fun _ => rfl
        · rename_i d he
          rw [he] at hx
          obtain ⟨b, q, cs, hv, hrep, hrg, hcol⟩ := hx
          cases hdt : decide (d.t = ti.ty) with
          | false => rw [hdt] at h; cases h
          | true =>
            rw [hdt] at h
            simp only [cond_true] at h
            split at h
            · rename_i y hp
              obtain ⟨p, c, r, rfl, hpl, hy⟩ := RepC.proj fty hp hrep
              refine good_put0 hr h hd (hrun hv) fun _ => ⟨b, q + off, c, rfl, hy, ?_, fun j hj => ?_⟩
              · rw [← hpl]; exact rangeAt_mid hrg
              · have := hcol (p.length + j) (by simp only [List.length_append]; omega)
                rw [hpl, ← Nat.add_assoc] at this
                exact this
            · cases h
        · cases h
    · cases h
  · cases h

theorem field_ok (hT : TTok P tt) {t f : Nat} {x : Operand} (hop : o.op = .field t x f) (hr : Rel w0 c0 n F a w col blk) (hd : ∀ d, o.dst = some d → d < n)
    (h : core Γ tt tr (getE F.v) (getB F.b) o some = some δ) : Good P w0 c0 n (F.app δ) o a w := by
  have hx := opn (tt := tt) hr t x
  unfold core at h
  simp only [hop] at h
  split at h
  · rename_i ti d own hl he
    rw [he] at hx
    split at h
    · rename_i off ft fty hf
      cases hb : decide (d.t = ti.ty) && Nat.beq ti.len 0 && ti.ty.agg with
      | false => rw [hb] at h; cases h
      | true =>
        rw [hb] at h
        simp only [Bool.and_eq_true, decide_eq_true_eq] at hb
        obtain ⟨⟨b1, b2⟩, b3⟩ := hb
        simp only [cond_true] at h
        split at h
        · rename_i y hp
          have hti := hT t ti hl
          obtain ⟨fs, hu, _, hfs⟩ := hti.struct b3 (Nat.eq_of_beq_eq_true b2)
          obtain ⟨g, hg, ho, hgt, tf, htf, hfty⟩ := hfs f off ft fty hf
          have htok := hT ft tf htf
          obtain ⟨cs, hc, hv⟩ := hx.1
          obtain ⟨p, c, r, rfl, hpl, hy⟩ := RepC.proj fty hp hc
          have hv : a.eval x = .agg (p ++ c ++ r).toArray := by
            rcases hv with ⟨_, hv⟩ | ⟨hv, _⟩
            · exact hv
            · rw [b1, b3] at hv; cases hv
          have hlen := hy.length
          have hpart : (part g.type (p ++ c ++ r).toArray g.offset).run P w = .ok (valueOf fty c) w := by
            unfold part
            rw [hgt, Sem.run_bind, run_isAgg htok, Result.andThen_ok, hfty]
            unfold valueOf
            cases ha : fty.agg with
            | true =>
              simp only [if_true]
              rw [Sem.run_bind, run_sizeOf htok, Result.andThen_ok, hfty, ho]
              have : (p ++ c ++ r).toArray.extract off (off + fty.size) = c.toArray := by
                apply Array.ext'
                rw [← hpl, ← hlen]
                simp
              rw [this]; rfl
            | false =>
              simp only [Bool.false_eq_true, if_false]
              have : fty.size = 1 := by cases ht : fty <;> simp_all [Ty.agg, Ty.size]
              rw [this] at hlen
              obtain ⟨c1, rfl⟩ := List.length_eq_one_iff.1 hlen
              have : (p ++ [c1] ++ r)[off]? = some c1 := by
                rw [List.append_assoc, List.getElem?_append_right (by omega), hpl]; simp
              rw [ho]
              simp only [List.getElem?_toArray, this]
              rfl
          refine good_put0 hr h hd (by unfold execOp; rw [hop]; exact run_v (by
            unfold Instr.field
            simp only [Sem.run_bind, run_underlying hu, Result.andThen_ok, hg, hv, asAgg, Sem.run_pure]
            exact hpart)) fun _ => ⟨repV_of hy, fun h => by simp at h⟩
        · cases h
    · cases h
  · cases h

theorem indexAddr_ok (hT : TTok P tt) {t : Nat} {x ix : Operand} (hop : o.op = .indexAddr t x ix) (hr : Rel w0 c0 n F a w col blk) (hd : ∀ d, o.dst = some d → d < n)
    (h : core Γ tt tr (getE F.v) (getB F.b) o some = some δ) : Good P w0 c0 n (F.app δ) o a w := by
  have hx := opn (tt := tt) hr t x
  have hi := opn (tt := tt) hr 0 ix
  unfold core at h
  simp only [hop] at h
  unfold indexAddrK at h
  have hrun : ∀ {v}, (Instr.indexAt t (a.eval x) (a.eval ix)).run P w = .ok v w → (execOp a.eval o).run P w = .ok (.value v) w := fun {v} hh => by
    unfold execOp; rw [hop]; exact run_v hh
  split at h
  · rename_i ti i e xs own hl h2 h3
    obtain ⟨k, _, e2⟩ := intOfE_some h2
    rw [e2] at hi; rw [h3] at hx
    have vi := repV_int hi.1
    cases hty : decide (ti.ty = .sl e) with
    | false => rw [hty] at h; cases h
    | true =>
      rw [hty] at h
      simp only [cond_true] at h
      have hti := hT t ti hl
      have hdesc := hti.desc
      rw [of_decide_eq_true hty] at hdesc
      obtain ⟨hu, te, hte, hee⟩ := hdesc
      obtain ⟨inf, z, hinf, hsz, _⟩ := (hT ti.elem te hte).info
      rw [hee] at hsz
      cases hid : idx xs i with
      | none => rw [hid] at h; cases h
      | some y =>
        rw [hid] at h
        simp only [Option.bind_some] at h
        unfold idx at hid
        cases h0 : decide (0 ≤ i) with
        | false => rw [h0] at hid; cases hid
        | true =>
          rw [h0] at hid
          simp only [cond_true] at hid
          simp only [decide_eq_true_eq] at h0
          have hlt : i.toNat < List.length xs := (List.getElem?_eq_some_iff.1 hid).1
          rcases repV_sl (e := e) (xs := xs) hx.1 with ⟨_, hnil⟩ | ⟨b, off, cap, es, hv, hcap, hes, hrg, him⟩
          · rw [hnil] at hlt; simp at hlt
          · obtain ⟨c, p, r, hc, rfl, hpl⟩ := RepL.get (fun _ _ h => h.length) hes hid
            refine good_put0 hr h hd (v := .pointer (some ⟨b, off + i.toNat * e.size, none⟩)) (hrun ?_) fun _ => ⟨b, off + i.toNat * e.size, c, rfl, hc, ?_, fun j hj => .inl ?_⟩
            · rw [hv, vi]
              have h5 : i < (List.length xs : Int) := by omega
              simp [Instr.indexAt, asIntOf, run_underlying hu, h0, h5, sizeOf, typeInfo, hinf, hsz, Addr.add_mid]
            · rw [← hpl]; exact rangeAt_mid hrg
            · have := him (p.length + j) (by simp only [List.length_append]; omega)
              rw [hpl, ← Nat.add_assoc] at this
              exact this
  · rename_i ti i kk off hl h2 h3
    obtain ⟨k, _, e2⟩ := intOfE_some h2
    rw [e2] at hi; rw [h3] at hx
    have vi := repV_int hi.1
    split at h
    · rename_i e r hty
      cases hb : decide (0 ≤ i) && Nat.blt i.toNat ti.len && !Nat.beq e.size 0 with
      | false => rw [hb] at h; cases h
      | true =>
        rw [hb] at h
        simp only [Bool.and_eq_true, decide_eq_true_eq, Nat.blt_eq] at hb
        obtain ⟨⟨b1, b2⟩, b3⟩ := hb
        simp only [cond_true] at h
        have hti := hT t ti hl
        obtain ⟨te, hu, hte, hee, _⟩ := hti.array (by rw [hty]; rfl) (by omega)
        obtain ⟨inf, z, hinf, hsz, _⟩ := (hT ti.elem te hte).info
        rw [hee e r hty] at hsz
        refine good_put0 hr h hd (v := .pointer (some ⟨blk kk, off + i.toNat * e.size, none⟩)) (hrun ?_) fun _ => rfl
        have h5 : i < (ti.len : Int) := by omega
        rw [show a.eval x = _ from hx, vi]
        simp [Instr.indexAt, asIntOf, run_underlying hu, b1, h5, sizeOf, typeInfo, hinf, hsz, Addr.add_mid, Instr.sureAddr]
    · cases h
  · rename_i ti i d hl h2 h3
    obtain ⟨k, _, e2⟩ := intOfE_some h2
    rw [e2] at hi; rw [h3] at hx
    have vi := repV_int hi.1
    obtain ⟨b, off, cs, hv, hrep, hrg, hcol⟩ := hx
    split at h
    · rename_i e r hty
      cases hb : decide (0 ≤ i) && Nat.blt i.toNat ti.len && !Nat.beq e.size 0 && decide (d.t = ti.ty) with
      | false => rw [hb] at h; cases h
      | true =>
        rw [hb] at h
        simp only [Bool.and_eq_true, decide_eq_true_eq, Nat.blt_eq] at hb
        obtain ⟨⟨⟨b1, b2⟩, b3⟩, b4⟩ := hb
        simp only [cond_true] at h
        have hti := hT t ti hl
        obtain ⟨te, hu, hte, hee, _⟩ := hti.array (by rw [hty]; rfl) (by omega)
        obtain ⟨inf, z, hinf, hsz, _⟩ := (hT ti.elem te hte).info
        rw [hee e r hty] at hsz
        split at h
        · rename_i y hp
          obtain ⟨p, c, q, rfl, hpl, hy⟩ := RepC.proj e hp hrep
          refine good_put0 hr h hd (v := .pointer (some ⟨b, off + i.toNat * e.size, none⟩)) (hrun ?_) fun _ => ⟨b, off + i.toNat * e.size, c, rfl, hy, ?_, fun j hj => ?_⟩
          · have h5 : i < (ti.len : Int) := by omega
            rw [hv, vi]
            simp [Instr.indexAt, asIntOf, run_underlying hu, b1, h5, sizeOf, typeInfo, hinf, hsz, Addr.add_mid, Instr.sureAddr]
          · rw [← hpl]; exact rangeAt_mid hrg
          · have := hcol (p.length + j) (by simp only [List.length_append]; omega)
            rw [hpl, ← Nat.add_assoc] at this
            exact this
        · cases h
    · cases h
  · cases h

/-! ### literals -/
theorem fill_step (A C D : List Value) (ys : Array Value) (hC : C.length = ys.size) (cells : Array Value) (hcells : cells.toList = A ++ C ++ D) :
    (ys.zipIdx.foldl (fun cs (c, j) => cs.setIfInBounds (A.length + j) c) cells).toList = A ++ ys.toList ++ D := by
  have e : ys.zipIdx.foldl (fun cs (c, j) => cs.setIfInBounds (A.length + j) c) cells = (ys.toList.zipIdx 0).foldl (fun cs (x : Value × Nat) => cs.setIfInBounds (A.length + x.2) x.1) cells := by
    rw [← Array.foldl_toList, Array.toList_zipIdx]
  rw [e]
  obtain ⟨h1, h2⟩ := Great.foldl_set A.length ys.toList 0 cells
  have hsize : cells.size = A.length + C.length + D.length := by
    have := congrArg List.length hcells
    simp at this
    omega
  apply List.ext_getElem?
  intro k
  rw [Array.getElem?_toList, h2 k]
  have hck : cells[k]? = (A ++ C ++ D)[k]? := by rw [← hcells]; simp
  simp only [Nat.add_zero, Array.length_toList]
  by_cases hin : A.length ≤ k ∧ k < A.length + ys.size ∧ k < cells.size
  · rw [if_pos hin, List.append_assoc, List.getElem?_append_right hin.1, List.getElem?_append_left (by simp; omega)]
  · rw [if_neg hin, hck]
    by_cases hk : k < A.length
    · rw [List.append_assoc, List.getElem?_append_left hk, List.append_assoc, List.getElem?_append_left hk]
    · rw [List.getElem?_append_right (by simp only [List.length_append]; omega), List.getElem?_append_right (by simp only [List.length_append, Array.length_toList]; omega)]
      simp only [List.length_append, Array.length_toList, hC]

theorem scal_some {e : Ent} {d : DV} (h : scal e = some d) : ∃ own, e = .val d own := by
  unfold scal at h
  split at h
  · simp only [Option.some.injEq] at h; subst h; exact ⟨_, rfl⟩
  · cases h

theorem fill_fields (hr : Rel w0 c0 n F a w col blk) {t : Ty} {flds : List (Nat × Nat × Ty)} {place : Nat → Option (Nat × Nat)} (hpl : ∀ j off ft fty, flds[j]? = some (off, ft, fty) → place j = some (off, fty.size)) (tyOf : Nat → Nat) :
    ∀ (parts : List (Nat × Operand)) (x z : t.den) (cells : Array Value), mkFields t flds x (parts.map fun p => (p.1, scal (ent tt (getE F.v) (tyOf p.1) p.2))) = some z → RepC w (Imm col) t x cells.toList →
      ∃ cells', Instr.fill place cells (parts.map fun p => (p.1, a.eval p.2)) = some cells' ∧ RepC w (Imm col) t z cells'.toList
  | [], x, z, cells, h, hc => by
    simp only [List.map_nil, mkFields, Option.some.injEq] at h
    subst h
    exact ⟨cells, rfl, hc⟩
  | (i, p) :: r, x, z, cells, h, hc => by
    simp only [List.map_cons] at h ⊢
    cases hs : scal (ent tt (getE F.v) (tyOf i) p) with
    | none => rw [hs] at h; simp [mkFields] at h
    | some d =>
      rw [hs] at h
      simp only [mkFields] at h
      split at h
      · rename_i off ft fty hf
        split at h
        · rename_i y hy
          have := as_some hy
          subst this
          cases hu : upd fty y t x off with
          | none => rw [hu] at h; cases h
          | some z1 =>
            rw [hu] at h
            simp only [Option.bind_some] at h
            obtain ⟨own, he⟩ := scal_some hs
            have hp := opn (tt := tt) hr (tyOf i) p
            rw [he] at hp
            have hyc := repV_cells hp.1
            have hysz := repV_size hp.1
            obtain ⟨A, C, D, hcells, hA, hCl, hz1⟩ := RepC.upd fty y hyc hu hc
            have hC : C.length = (a.eval p).cells.size := by rw [hCl]; simp
            have hst := fill_step A C D (a.eval p).cells hC cells hcells
            have hsize : cells.size = A.length + C.length + D.length := by
              have := congrArg List.length hcells
              simp at this
              omega
            simp only at hysz
            obtain ⟨cells', h1, h2⟩ := fill_fields hr hpl tyOf r z1 z _ h (by rw [hst]; exact hz1)
            refine ⟨cells', ?_, h2⟩
            simp only [Instr.fill, hpl i off ft fty hf]
            rw [if_neg (by simp only [hysz, ne_eq, not_true_eq_false, false_or, Bool.or_eq_true, decide_eq_true_eq]; omega)]
            rw [← hA]
            exact h1
        · cases h
      · cases h

theorem mapM_opt {α β : Type} {g : α → Option β} : ∀ {l : List α}, (∀ x ∈ l, ∃ y, g x = some y) → ∃ ys, l.mapM g = some ys ∧ ∀ (j : Nat), ys[j]? = (l[j]?).bind g
  | [], _ => ⟨[], rfl, fun j => by simp⟩
  | x :: r, h => by
    obtain ⟨y, hy⟩ := h x (by simp)
    obtain ⟨ys, h1, h2⟩ := mapM_opt (l := r) fun z hz => h z (by simp [hz])
    refine ⟨y :: ys, by simp [List.mapM_cons, hy, h1], fun j => ?_⟩
    cases j with
    | zero => simp [hy]
    | succ j => simpa using h2 j

theorem build_ok (hT : TTok P tt) {t : Nat} {parts : Array (Nat × Operand)} (hop : o.op = .build t parts) (hr : Rel w0 c0 n F a w col blk) (hd : ∀ d, o.dst = some d → d < n)
    (h : core Γ tt tr (getE F.v) (getB F.b) o some = some δ) : Good P w0 c0 n (F.app δ) o a w := by
  unfold core at h
  simp only [hop] at h
  split at h
  · rename_i ti hl
    cases hag : ti.ty.agg with
    | false => rw [hag] at h; cases h
    | true =>
      rw [hag] at h
      simp only [Bool.not_true, cond_false] at h
      split at h
      · rename_i x hx
        unfold partsD at hx
        have hti := hT t ti hl
        obtain ⟨i, z, hi, hsz, hby, hz, hzc⟩ := hti.info
        have hzero : RepC w (Imm col) ti.ty (zeroD ti.ty) z.cells.toList := by rw [hzc]; exact RepC.zero _
        have hparts : (parts.map fun (i, x) => (i, a.eval x)).toList = parts.toList.map fun p => (p.1, a.eval p.2) := by simp
        have key : ∃ cells, P.built t (parts.map fun (i, x) => (i, a.eval x)).toList = some cells ∧ RepC w (Imm col) ti.ty x cells.toList := by
          rw [hparts]
          by_cases hlen : ti.len = 0
          · obtain ⟨fs, hu, hfl, hfs⟩ := hti.struct hag hlen
            have hfld : ∀ j (hj : j < fs.size), ∃ tf off fty, ti.flds[j]? = some (off, fs[j].type, fty) ∧ fs[j].offset = off ∧ tt.look fs[j].type = some tf ∧ tf.ty = fty := fun j hj => by
              obtain ⟨⟨off, ft, fty⟩, hq⟩ : ∃ q, ti.flds[j]'(by omega) = q := ⟨_, rfl⟩
              have hq' : ti.flds[j]? = some (off, ft, fty) := by rw [List.getElem?_eq_getElem (by omega), hq]
              obtain ⟨g, hg, ho, hgt, tf, htf, hty⟩ := hfs j off ft fty hq'
              rw [Array.getElem?_eq_getElem hj] at hg
              simp only [Option.some.injEq] at hg
              subst hg
              exact ⟨tf, off, fty, by rw [hgt]; exact hq', ho, by rw [hgt]; exact htf, hty⟩
            obtain ⟨places, hp1, hp2⟩ := mapM_opt (g := fun (f : Field) => (P.info? f.type).map fun i => (f.offset, i.size)) (l := fs.toList) fun f hf => by
              obtain ⟨j, hj, rfl⟩ := List.mem_iff_getElem.1 hf
              obtain ⟨tf, off, fty, _, _, htf, _⟩ := hfld j (by simpa using hj)
              obtain ⟨i2, _, hi2, _⟩ := (hT _ tf htf).info
              simp only [Array.getElem_toList] at *
              exact ⟨_, by rw [hi2]; rfl⟩
            obtain ⟨cells, h1, h2⟩ := fill_fields (a := a) hr (place := fun j => places.toArray[j]?) (fun j off ft fty hj => by
              obtain ⟨g, hg, ho, hgt, tf, htf, hty⟩ := hfs j off ft fty hj
              obtain ⟨i2, _, hi2, hs2, _⟩ := (hT _ tf htf).info
              have := hp2 j
              simp only [List.getElem?_toArray]
              rw [this, Array.getElem?_toList, hg]
              simp [hgt, hi2, hs2, ho, hty]) (fun i => ((ti.flds[i]?).map (·.2.1)).getD 0) parts.toList _ x _ hx hzero
            refine ⟨cells, ?_, h2⟩
            unfold Program.built
            simp only [hi, hu, hz, hp1]
            exact h1
          · obtain ⟨te, hu, hte, hee, hfl⟩ := hti.array hag hlen
            obtain ⟨i2, _, hi2, hs2, _⟩ := (hT _ te hte).info
            obtain ⟨cells, h1, h2⟩ := fill_fields (a := a) hr (place := fun j => some (j * i2.size, i2.size)) (fun j off ft fty hj => by
              obtain ⟨h5, h6, h7⟩ := hfl j off ft fty hj
              subst h7
              rw [h5, hs2]) (fun i => ((ti.flds[i]?).map (·.2.1)).getD 0) parts.toList _ x _ hx hzero
            refine ⟨cells, ?_, h2⟩
            unfold Program.built
            simp only [hi, hu, hz, hi2]
            exact h1
        obtain ⟨cells, hb, hrep⟩ := key
        have hrun := run_build (P := P) w t _ cells hb
        exact good_put0 hr h hd (by unfold execOp; rw [hop]; exact run_v hrun) fun _ => ⟨⟨cells.toList, hrep, .inl ⟨hag, by simp⟩⟩, fun h => by simp at h⟩
      · cases h
  · cases h

end
end Go.Ev
