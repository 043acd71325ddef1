/-
  THE EVALUATOR, PART F: rows that are made and that grow, cuts, addresses, literals, calls by contract; all operations together.
-/
import Derived.Test.YthappjffpkpojaaEvE
namespace Go.Ev
open Go Go.RowKit
set_option linter.unusedVariables false
set_option linter.unusedSimpArgs false

/-! ## Contracts -/
def CapsRep (w : World) (col : Col) : (cs : List (Bool × Ty)) → CapsDen cs → List Value → Prop
  | [], _, vs => vs = []
  | (p, t) :: r, x, vs => ∃ v vs', vs = v :: vs' ∧ (if p then Peek w col ⟨t, x.1⟩ v else RepV w (Imm col) t x.1 v) ∧ CapsRep w col r x.2 vs'

def ArgRep (w : World) (col : Col) : (a : ATy) → a.den → Value → Prop
  | .v t, x, v => RepV w (Imm col) t x v
  | .pk t, x, v => Peek w col ⟨t, x⟩ v
  | .cl f cs, x, v => ∃ vs : List Value, v = .func (.func f) #[] vs.toArray ∧ CapsRep w col cs x vs

def ArgsRep (w : World) (col : Col) : (as : List ATy) → DenA as → List Value → Prop
  | [], _, vs => vs = []
  | a :: r, x, vs => ∃ v vs', vs = v :: vs' ∧ ArgRep w col a x.1 v ∧ ArgsRep w col r x.2 vs'

def ResRep (w : World) (col : Col) (B : Nat) : (ts : List Ty) → (own : Bool) → DenR ts → Value → Prop
  | [t], own, x, v => RepV w (Imm col) t x v ∧ ((own && t.isSl) = true → Spare w col B (.sp 0) (elSz t) v)
  | ts, _, x, v => ∃ vs : List Value, v = .tuple vs.toArray ∧ All2 (fun (d : DV) v => RepV w (Imm col) d.t d.x v) (encR ts x) vs

def PostC (c : Con) (c0 : Col) (w : World) (r : DenR c.res) (e : Ending) (w' : World) : Prop :=
  ∃ v col', e = .returned v ∧ Below w.heap.size w w' ∧ (∀ b o, b < w.heap.size → col' b o = oldCol c0 b o) ∧ ResRep w' col' w.heap.size c.res c.own r v

/-! Calls that turn a variable of the caller's: what it holds is the last argument and the last result. -/
def MRep (w : World) (col : Col) (B k b : Nat) (own : List Nat) : (as : List ATy) → DenA as → List Value → Prop
  | [.v t], x, vs => vs = [] ∧ BoxOk w col (fun _ => b) B k ⟨t, x.1, own⟩
  | .v t :: a :: r, x, vs => ∃ v vs', vs = v :: vs' ∧ RepV w (Imm col) t x.1 v ∧ MRep w col B k b own (a :: r) x.2 vs'
  | _, _, _ => False

def muV (cl : Option Nat) (b : Nat) : Value := match cl with
  | none => .pointer (some ⟨b, 0, none⟩)
  | some g => .func (.func g) #[] #[.pointer (some ⟨b, 0, none⟩)]

def MT (k : Nat) : Tag → Prop := fun t => t = .box k ∨ ∃ off, t = .spb k off

def PostM (c : Con) (w0 w : World) (col : Col) (k b : Nat) (own : List Nat) (r : DenR c.res) (e : Ending) (w' : World) : Prop :=
  ∃ v col' ds y, e = .returned v ∧ splitLast (encR c.res r) = some (ds, y) ∧ Below w0.heap.size w0 w' ∧ (∀ b o, b < w0.heap.size → col' b o = col b o) ∧ Same w w' col col' (MT k) ∧
    BoxOk w' col' (fun _ => b) w0.heap.size k ⟨y.t, y.x, own⟩ ∧ EntOk w' col' (fun _ => 0) w0.heap.size 0 (resOf ds) v

/-- A contract is kept in every world that has what J says. -/
structure SoundC (P : Program) (J : World → Prop) (c : Con) : Prop where
  fn : ∃ fn, P.funcs[c.f]? = some fn ∧ fn.body.isSome = true ∧ (fn.name == "runtime.NumGoroutine") = false
  calls : c.mu = none → ∀ (w : World) (c0 : Col) (vs : List Value) (x : DenA c.args) (r : DenR c.res), J w → c.fn x = some r → ArgsRep w (oldCol c0) c.args x vs → Calls P c.f vs.toArray w (PostC c c0 w r)
  mcalls : ∀ pos cl own, c.mu = some (pos, cl, own) → ∀ (w0 w : World) (col : Col) (vs : List Value) (x : DenA c.args) (r : DenR c.res) (k b : Nat), J w0 → Below w0.heap.size w0 w →
    (∀ b o, b < w0.heap.size → col b o = .imm ∨ col b o = .old) → c.fn x = some r → MRep w col w0.heap.size k b own c.args x vs → pos ≤ vs.length →
    Calls P c.f (vs.take pos ++ muV cl b :: vs.drop pos).toArray w (PostM c w0 w col k b own r)

/-- A contract is kept in every world that comes of a given one. -/
def SoundAt (P : Program) (w0 : World) (c : Con) : Prop := SoundC P (fun w => Below w0.heap.size w0 w) c

/-- What holds of a world also holds of what comes of it. -/
def Keeps (J : World → Prop) : Prop := ∀ w w', J w → Below w.heap.size w w' → J w'

theorem SoundC.at {P : Program} {J : World → Prop} {c : Con} (h : SoundC P J c) (hJ : Keeps J) {w0 : World} (h0 : J w0) : SoundAt P w0 c :=
  ⟨h.fn, fun hm w c0 vs x r hw hx ha => h.calls hm w c0 vs x r (hJ _ _ h0 hw) hx ha, fun pos cl own hm w1 w col vs x r k b hw => h.mcalls pos cl own hm w1 w col vs x r k b (hJ _ _ h0 hw)⟩

section
variable {P : Program} {tt : TT} {Γ : List Con} {w0 w w' : World} {c0 : En} {n : Nat} {F : Fr} {a : Act} {col : Col} {blk : Nat → Nat} {o : Oper} {δ : Delta} {tr : Bool}

/-! ### A new row -/
theorem Rel.newRow (hr : Rel w0 c0 n F a w col blk) {d : Nat} (hd : d < n) {e : Ty} {xs : List e.den} {es rest : List Value} {cap : Nat} {w1 : World} (hw1 : w1 = w ∨ w1 = w.drew) (ty : TypeId)
    (hes : RepL (RepC w (Imm col) e) xs es) (hcap : xs.length ≤ cap) (hlen : (es ++ rest).length = cap * e.size) :
    Rel w0 c0 n ⟨setE F.v d (.val ⟨.sl e, xs⟩ true), F.b⟩ (a.put (some d) (.slice (some ⟨w.heap.size, 0, none⟩) xs.length cap)) (w1.alloc (.cells (es ++ rest).toArray ty))
      (newCol w col fun o => if o < es.length then .imm else .sp d) blk := by
  have hl : es.length = xs.length * e.size := RepL.length (fun _ _ h => h.length) hes
  have hsz : w1.heap.size = w.heap.size := by rcases hw1 with rfl | rfl <;> rfl
  have hcol : newCol w col (fun o => if o < es.length then .imm else .sp d) = newCol w1 col (fun o => if o < es.length then .imm else .sp d) := by unfold newCol; rw [hsz]
  have hS : Same w (w1.alloc (.cells (es ++ rest).toArray ty)) col (newCol w col fun o => if o < es.length then .imm else .sp d) (fun _ => False) := by
    rw [hcol]
    rcases hw1 with rfl | rfl
    · exact alloc_same _ _
    · exact drew_same.trans (alloc_same _ _)
  have hB := hr.below.size
  have hBe : Below w0.heap.size w0 (w1.alloc (.cells (es ++ rest).toArray ty)) := by
    rcases hw1 with rfl | rfl
    · exact hr.below.alloc hB _
    · exact hr.below.drew.alloc (by simpa using hB) _
  have hrg : (w1.alloc (.cells (es ++ rest).toArray ty)).rangeAt w.heap.size 0 (es ++ rest) := by rw [← hsz]; exact range_new _ _
  refine hr.put hd hBe hS ⟨fun h => h, fun h => h⟩ (new_old hB hr.old) (fun _ _ h => h.elim) (fun _ h => h) (fun _ _ _ h => h.elim) ⟨⟨_, ⟨_, rfl, .inr ⟨w.heap.size, 0, cap, es, rfl, hcap, RepL.imp (fun _ _ h => hS.repC ⟨fun h => h, fun h => h⟩ h) hes, ?_, fun j hj => ?_⟩⟩, .inr ⟨rfl, rfl⟩⟩, fun _ => .inr ⟨w.heap.size, 0, xs.length, cap, rfl, ⟨hB, ?_, fun q => ?_⟩, hcap, fun j hj => ⟨?_, fun hj' => ⟨?_, ?_⟩⟩⟩⟩
  · intro j v hv
    exact hrg j v (by rw [List.getElem?_append_left (List.getElem?_eq_some_iff.1 hv).1]; exact hv)
  · simp [Imm, newCol, hj]
  · rw [World.size_alloc]; omega
  · rw [← hsz]; exact frozen_new _ _ _
  · have : elSz (Ty.sl e) = e.size := rfl
    rw [this] at hj
    simp only [newCol, if_true, Nat.zero_add]
    rw [if_neg (by omega)]
  · exact range_some hrg (by have : elSz (Ty.sl e) = e.size := rfl
                             rw [this] at hj'; omega)
  · rw [Nat.zero_add, ← hsz]; exact frozen_new _ _ _

/-! ### append -/
theorem run_append_mid (t ty e : TypeId) (i : TypeInfo) (ht : P.underlying t = some (.slice e)) (hi : P.info? e = some i) (b off sLen sCap : Nat)
    (p : Addr) (m c : Nat) (news : List Value) (hl : news.length = m * i.size) (hnews : ∀ j u, news[j]? = some u → w.cell? (p.add j) = some u) (h1 : ∀ u ∈ news, u.oneCell' = true)
    (hroom : sLen + m ≤ sCap) (hc : ∀ j, j < news.length → (w.cell? ⟨b, off + sLen * i.size + j, none⟩).isSome = true ∧ w.frozen? ⟨b, off + sLen * i.size + j, none⟩ = false) :
    (Builtin.append_ #[t, t] ty #[.slice (some ⟨b, off, none⟩) sLen sCap, .slice (some p) m c]).run P w =
      .ok (.slice (some ⟨b, off, none⟩) (sLen + m) sCap) (w.setCells b (off + sLen * i.size) news) := by
  have hf := run_firstCells_some (P := P) w i.size m p m c news hl hnews
  have hst := run_storeCells_cells (P := P) b (off + sLen * i.size) news 0 w (fun j hj => by simpa using (hc j hj).1) (fun j hj => by simpa using (hc j hj).2) h1
  simp only [Nat.add_zero] at hst
  simp [Builtin.append_, run_underlying ht, sizeOf, typeInfo, hi, Builtin.lenOf, hroom, hf, Addr.add_mid, hst]

theorem run_append_none (t ty e : TypeId) (i : TypeInfo) (ht : P.underlying t = some (.slice e)) (hi : P.info? e = some i) (p : Option Addr) (hp : ∀ q, p = some q → q.spot = none) (sLen sCap : Nat) (q : Option Addr) (c : Nat)
    (hroom : sLen ≤ sCap) :
    (Builtin.append_ #[t, t] ty #[.slice p sLen sCap, .slice q 0 c]).run P w = .ok (.slice p sLen sCap) w := by
  have hf : (Builtin.firstCells i.size 0 (.slice q 0 c)).run P w = .ok #[] w := by
    cases q <;> simp [Builtin.firstCells, loadCells, loadCellsFrom]
  cases p with
  | none => simp [Builtin.append_, run_underlying ht, sizeOf, typeInfo, hi, Builtin.lenOf, hroom, hf]
  | some p => simp [Builtin.append_, run_underlying ht, sizeOf, typeInfo, hi, Builtin.lenOf, hroom, hf, storeCells]

/-- The row of slot s (whose entry has no right any more) grows in place, into slot d. -/
theorem Rel.grown (hr : Rel w0 c0 n F a w col blk) {s d : Nat} (hns : ∀ x, getE F.v s ≠ .val x true) (hd : d < n) {e : Ty} {xs ys : List e.den} {es ns : List Value} {b off cap : Nat}
    (hes : RepL (RepC w (Imm col) e) xs es) (hrg : w.rangeAt b off es) (him : ∀ j, j < es.length → Imm col b (off + j)) (hys : RepL (RepC w (Imm col) e) ys ns) (hB : w0.heap.size ≤ b) (hroom : xs.length + ys.length ≤ cap)
    (hblt : b < w.heap.size ∧ ∀ q, w.frozen? ⟨b, q, none⟩ = false) (hsp : ∀ j, xs.length * e.size ≤ j → col b (off + j) = .sp s ∧ (j < cap * e.size → (w.cell? ⟨b, off + j, none⟩).isSome = true ∧ w.frozen? ⟨b, off + j, none⟩ = false)) :
    ∃ col', Rel w0 c0 n ⟨setE F.v d (.val ⟨.sl e, xs ++ ys⟩ true), F.b⟩ (a.put (some d) (.slice (some ⟨b, off, none⟩) (xs.length + ys.length) cap)) (w.setCells b (off + xs.length * e.size) ns) col' blk := by
  have hl : es.length = xs.length * e.size := RepL.length (fun _ _ h => h.length) hes
  have hln : ns.length = ys.length * e.size := RepL.length (fun _ _ h => h.length) hys
  have hmul : (xs.length + ys.length) * e.size = xs.length * e.size + ys.length * e.size := Nat.add_mul _ _ _
  have hcap : (xs.length + ys.length) * e.size ≤ cap * e.size := Nat.mul_le_mul_right _ hroom
  let col' : Col := fun b' o' => if col b' o' = .sp s then (if b' = b ∧ off + xs.length * e.size ≤ o' ∧ o' < off + (xs.length + ys.length) * e.size then .imm else .sp d) else col b' o'
  have hS1 : Same w (w.setCells b (off + xs.length * e.size) ns) col col (· = .sp s) := setCells_same fun j hj => by
    have := (hsp (xs.length * e.size + j) (by omega)).1
    rwa [← Nat.add_assoc] at this
  have hS : Same w (w.setCells b (off + xs.length * e.size) ns) col col' (· = .sp s) := ⟨hS1.1, fun b' o' hs hT => by
    obtain ⟨p, _⟩ := hS1.2 b' o' hs hT
    refine ⟨p, ?_⟩
    show (if col b' o' = .sp s then _ else _) = _
    rw [if_neg hT]⟩
  have hin : ∀ j, j < ns.length → (w.cell? ⟨b, off + xs.length * e.size + j, none⟩).isSome = true := fun j hj => by
    have := ((hsp (xs.length * e.size + j) (by omega)).2 (by omega)).1
    rwa [← Nat.add_assoc] at this
  have hnew : (w.setCells b (off + xs.length * e.size) ns).rangeAt b (off + es.length) ns := fun j u hu => by
    have hj : j < ns.length := (List.getElem?_eq_some_iff.1 hu).1
    rw [hl, World.cell?_setCells_in b ns _ w hin j hj]
    exact (List.getElem?_eq_some_iff.1 hu).2 ▸ rfl
  have hold : (w.setCells b (off + xs.length * e.size) ns).rangeAt b off es := hS.range hrg fun j hj => by
    rw [show col b (off + j) = .imm from him j hj]; simp
  refine ⟨col', hr.put (T := (· = .sp s)) hd (below_setCells hB _ _ hr.below) hS (by simp) (fun b' o' hb' => ?_) (fun s' hne hT x hx => ?_) (by simp) (by simp) ?_⟩
  · show (if col b' o' = .sp s then _ else _) = _
    have := hr.old b' o' hb'
    rw [if_neg, this]
    rw [this]
    rcases oldCol_two c0.c b' o' with e | e <;> rw [e] <;> simp
  · simp only [Tag.sp.injEq] at hT; subst hT; exact hns x hx
  · refine ⟨⟨_, ⟨_, rfl, .inr ⟨b, off, cap, es ++ ns, by rw [List.length_append], by rw [List.length_append]; exact hroom,
      RepL.append (RepL.imp (fun _ _ h => hS.repC (by simp) h) hes) (RepL.imp (fun _ _ h => hS.repC (by simp) h) hys), range_append hold hnew, fun j hj => ?_⟩⟩, .inr ⟨rfl, rfl⟩⟩, fun _ => .inr ⟨b, off, _, cap, rfl, ⟨hB, Nat.lt_of_lt_of_le hblt.1 hS.1.1, fun q => by rw [World.frozen?_setCells]; exact hblt.2 q⟩, by exact hroom, fun j hj => ?_⟩⟩
    · show (if col b (off + j) = .sp s then _ else _) = _
      rw [List.length_append] at hj
      by_cases hjl : j < es.length
      · have := him j hjl
        rw [if_neg (by rw [show col b (off + j) = .imm from this]; simp)]
        exact this
      · have := (hsp j (by omega)).1
        rw [if_pos this, if_pos (by omega)]
    · have : elSz (Ty.sl e) = e.size := rfl
      rw [this] at hj
      obtain ⟨p, q⟩ := hsp j (by omega)
      refine ⟨?_, fun hj' => ⟨?_, by rw [World.frozen?_setCells]; exact (q hj').2⟩⟩
      · show (if col b (off + j) = .sp s then _ else _) = _
        rw [if_pos p, if_neg (by omega)]
      · exact World.isSome_setCells b ns _ w _ (q hj').1

/-- An append that makes a new row. -/
theorem append_fresh (hT : TTok P tt) {t : Nat} {s x : Operand} {c : Call} (hop : o.op = .call c) (hc : c = ⟨.builtin .append, #[s, x], #[t, t]⟩) (hr : Rel w0 c0 n F a w col blk) (hd : ∀ d, o.dst = some d → d < n) {e : Ty} {xs ys : List e.den} {ti : TI}
    (h3 : tt.look t = some ti) (hty : ti.ty = .sl e) (hx1 : RepV w (Imm col) (.sl e) xs (a.eval s)) (hful : ∃ p m, a.eval s = .slice p m m) (hy1 : RepV w (Imm col) (.sl e) ys (a.eval x)) (hlen : xs.length + ys.length ≤ 2147483648) (h0 : 0 < ys.length)
    (h : put o some (.val ⟨.sl e, xs ++ ys⟩ true) [] = some δ) : Good P w0 c0 n (F.app δ) o a w := by
  obtain ⟨d, hdst, rfl⟩ := put_some h
  have hti := hT t ti h3
  have hdesc := hti.desc
  rw [hty] at hdesc
  obtain ⟨hu, te, hte, hee⟩ := hdesc
  have hte' := hT ti.elem te hte
  obtain ⟨i, z, hi, hsz, hby, hz, hzc⟩ := hte'.info
  have hbytes := hte'.bytes
  rw [hee] at hsz hzc
  have hzl : z.cells.size = e.size := by rw [hzc]; simpa using (RepC.zero (w := w) (I := fun _ _ => True) e).length
  have hexec : ∀ {v w2}, (Builtin.append_ #[t, t] o.type #[a.eval s, a.eval x]).run P w = .ok v w2 → (execOp a.eval o).run P w = .ok (.value v) w2 := fun {v w2} hh => by
    unfold execOp
    simp [hop, hc, resolve, invoke, builtin, hh]
  have hmax : (xs.length + ys.length) * i.bytes ≤ 140737488355328 := by
    rw [hby]
    exact Nat.le_trans (Nat.mul_le_mul hlen hbytes) (by decide)
  rcases repV_sl hy1 with ⟨_, hv⟩ | ⟨b', off', cap', ns, hv, hcap', hns', hrg', him'⟩
  · exact absurd h0 (by rw [hv]; simp)
  · have hln : ns.length = ys.length * i.size := by rw [hsz]; exact RepL.length (fun _ _ h => h.length) hns'
    rcases repV_sl hx1 with ⟨hsv, hxs⟩ | ⟨b, off, cap, es, hsv, hcap, hes, hrg, him⟩
    · have hxs' : xs = [] := hxs
      clear hxs
      subst hxs'
      have hrun := run_append_nil (P := P) w t o.type ti.elem i z hu hi hz ⟨b', off', none⟩ ys.length cap' ns hln (range_add hrg') (by omega) (by omega) (by
        have := hmax; simp only [List.length_nil, Nat.zero_add] at this; omega)
      rw [← hv, ← hsv] at hrun
      have hge : ys.length ≤ grownCap w ys.length 0 ti.elem := grownCap_ge w _ _ _
      have hZ : (Builtin.zeroCells z.cells (grownCap w ys.length 0 ti.elem - ys.length)).toList.length = (grownCap w ys.length 0 ti.elem - ys.length) * e.size := by
        have := size_zeroCells z.cells (grownCap w ys.length 0 ti.elem - ys.length)
        rw [hzl] at this
        exact this
      have hA : ns.toArray ++ Builtin.zeroCells z.cells (grownCap w ys.length 0 ti.elem - ys.length) = (ns ++ (Builtin.zeroCells z.cells (grownCap w ys.length 0 ti.elem - ys.length)).toList).toArray := by
        apply Array.ext'; simp
      rw [hA] at hrun
      refine good_of (col' := newCol w col fun o => if o < ns.length then .imm else .sp d) (blk' := blk) (hexec hrun) ?_
      rw [hdst]
      exact hr.newRow (hd d hdst) (e := e) (xs := ys) (es := ns) (.inr rfl) ti.elem hns' hge (by
        rw [List.length_append, hZ, hln, hsz, ← Nat.add_mul]
        congr 1; omega)
    · obtain ⟨p, m, hpm⟩ := hful
      have hcm : xs.length = cap := by
        rw [hsv] at hpm
        simp only [Value.slice.injEq] at hpm
        omega
      have hesl : es.length = xs.length * e.size := RepL.length (fun _ _ h => h.length) hes
      have hrun := run_append_grow (P := P) w t o.type ti.elem i z hu hi hz ⟨b, off, none⟩ xs.length cap es (by rw [hesl, hsz]) (range_add hrg) ⟨b', off', none⟩ ys.length cap' ns hln (range_add hrg') (by omega) (by omega) (growslice_fits (by omega) hmax)
      rw [← hv, ← hsv] at hrun
      have hge : xs.length + ys.length ≤ grownCap w (xs.length + ys.length) cap ti.elem := grownCap_ge w _ _ _
      have hZ : (Builtin.zeroCells z.cells (grownCap w (xs.length + ys.length) cap ti.elem - (xs.length + ys.length))).toList.length = (grownCap w (xs.length + ys.length) cap ti.elem - (xs.length + ys.length)) * e.size := by
        have := size_zeroCells z.cells (grownCap w (xs.length + ys.length) cap ti.elem - (xs.length + ys.length))
        rw [hzl] at this
        exact this
      have hA : es.toArray ++ ns.toArray ++ Builtin.zeroCells z.cells (grownCap w (xs.length + ys.length) cap ti.elem - (xs.length + ys.length)) = ((es ++ ns) ++ (Builtin.zeroCells z.cells (grownCap w (xs.length + ys.length) cap ti.elem - (xs.length + ys.length))).toList).toArray := by
        apply Array.ext'; simp
      rw [hA] at hrun
      refine good_of (col' := newCol w col fun o => if o < (es ++ ns).length then .imm else .sp d) (blk' := blk) (hexec hrun) ?_
      rw [hdst]
      have := hr.newRow (hd d hdst) (e := e) (xs := xs ++ ys) (es := es ++ ns) (rest := (Builtin.zeroCells z.cells (grownCap w (xs.length + ys.length) cap ti.elem - (xs.length + ys.length))).toList) (cap := grownCap w (xs.length + ys.length) cap ti.elem) (.inr rfl) ti.elem (RepL.append hes hns') (by
        rw [List.length_append]; exact hge) (by
        rw [List.length_append, List.length_append, hZ, hesl, hln, hsz, ← Nat.add_mul, ← Nat.add_mul]
        congr 1; omega)
      rw [List.length_append (as := xs) (bs := ys)] at this
      exact this

theorem append_ok (hT : TTok P tt) {t u : Nat} {s x : Operand} {c : Call} (hop : o.op = .call c) (hc : c = ⟨.builtin .append, #[s, x], #[t, u]⟩) (hr : Rel w0 c0 n F a w col blk) (hd : ∀ d, o.dst = some d → d < n)
    (h : appendK tt (getE F.v) o some t u s x = some δ) : Good P w0 c0 n (F.app δ) o a w := by
  have hs := opn (tt := tt) hr t s
  have hx := opn (tt := tt) hr u x
  unfold appendK at h
  split at h
  · rename_i e xs own q qown ti h1 h2 h3
    rw [h1] at hs
    rw [h2] at hx
    cases hb : own && Nat.beq t u && decide (ti.ty = .sl e) with
    | false => rw [hb] at h; cases h
    | true =>
      rw [hb] at h
      simp only [Bool.and_eq_true, decide_eq_true_eq] at hb
      obtain ⟨⟨rfl, htu⟩, hty⟩ := hb
      have := Nat.eq_of_beq_eq_true htu
      subst this
      simp only [cond_true] at h
      split at h
      · rename_i ys h4
        have := as_some h4
        subst this
        cases hlen : decide (xs.length + ys.length ≤ most) with
        | false => rw [hlen] at h; cases h
        | true =>
          rw [hlen] at h
          simp only [decide_eq_true_eq] at hlen
          unfold most at hlen
          simp only [cond_true] at h
          obtain ⟨d, hdst, rfl⟩ := put_some h
          have hti := hT t ti h3
          have hdesc := hti.desc
          rw [hty] at hdesc
          obtain ⟨hu, te, hte, hee⟩ := hdesc
          have hte' := hT ti.elem te hte
          obtain ⟨i, z, hi, hsz, hby, hz, hzc⟩ := hte'.info
          have hbytes := hte'.bytes
          rw [hee] at hsz hzc
          have hzl : z.cells.size = e.size := by rw [hzc]; simpa using (RepC.zero (w := w) (I := fun _ _ => True) e).length
          -- the frame without the right
          obtain ⟨F1, hF1, hr1, hns⟩ : ∃ F1 : Fr, F.app ⟨none, left ⟨.sl e, xs⟩ s ++ [(d, .val ⟨.sl e, xs ++ ys⟩ true)], []⟩ = ⟨setE F1.v d (.val ⟨.sl e, xs ++ ys⟩ true), F1.b⟩ ∧ Rel w0 c0 n F1 a w col blk ∧
              (a.eval s = .slice none 0 0 ∨ ∀ y, getE F1.v (slot s) ≠ .val y true) := by
            cases s with
            | tmp sl => exact ⟨⟨setE F.v sl (.val ⟨.sl e, xs⟩ false), F.b⟩, rfl, hr.drop h1, .inr fun y hy => by
                have : getE (setE F.v sl (.val ⟨.sl e, xs⟩ false)) sl = .val y true := hy
                rw [getE_setE, if_pos rfl] at this
                simp at this⟩
            | const cv =>
              refine ⟨F, rfl, hr, .inl ?_⟩
              have h1' : constE tt t cv = .val ⟨.sl e, xs⟩ true := h1
              unfold constE at h1'
              split at h1' <;> first | rfl | (simp at h1'; done)
            | func f => simp [ent] at h1
            | global g => simp [ent] at h1
          rw [hF1]
          have hexec : ∀ {v w2}, (Builtin.append_ #[t, t] o.type #[a.eval s, a.eval x]).run P w = .ok v w2 → (execOp a.eval o).run P w = .ok (.value v) w2 := fun {v w2} hh => by
            unfold execOp
            simp [hop, hc, resolve, invoke, builtin, hh]
          have hmax : (xs.length + ys.length) * i.bytes ≤ 140737488355328 := by
            rw [hby]
            exact Nat.le_trans (Nat.mul_le_mul hlen hbytes) (by decide)
          obtain hys := repV_sl hx.1
          have hgc : ∀ old, xs.length + ys.length ≤ grownCap w (xs.length + ys.length) old ti.elem := fun old => grownCap_ge w _ _ _
          rcases repV_sl hs.1 with ⟨hsv, hxs⟩ | ⟨b, off, cap, es, hsv, hcap, hes, hrg, him⟩
          · have hxs' : xs = [] := hxs
            clear hxs
            subst hxs'
            by_cases h0 : ys.length = 0
            · have : ys = [] := List.eq_nil_of_length_eq_zero h0
              subst this
              obtain ⟨q0, c0', hq0⟩ : ∃ q0 c0', a.eval x = .slice q0 0 c0' := by
                rcases hys with ⟨hv, _⟩ | ⟨_, _, _, _, hv, _⟩
                · exact ⟨_, _, hv⟩
                · exact ⟨_, _, hv⟩
              refine good_of (col' := col) (blk' := blk) (hexec (by rw [hsv, hq0]; exact run_append_none t o.type ti.elem i hu hi none (by simp) 0 0 q0 c0' (Nat.le_refl _))) ?_
              rw [hdst]
              exact hr1.put0 (hd d hdst) ⟨⟨_, ⟨_, rfl, .inl ⟨rfl, rfl⟩⟩, .inr ⟨rfl, rfl⟩⟩, fun _ => .inl rfl⟩
            · rcases hys with ⟨_, hv⟩ | ⟨b', off', cap', ns, hv, hcap', hns', hrg', him'⟩
              · exact absurd (by have hv' : ys = [] := hv; rw [hv']; rfl) h0
              · have hln : ns.length = ys.length * i.size := by rw [hsz]; exact RepL.length (fun _ _ h => h.length) hns'
                have hrun := run_append_nil (P := P) w t o.type ti.elem i z hu hi hz ⟨b', off', none⟩ ys.length cap' ns hln (range_add hrg') (by omega) (by omega) (by
                  have := hmax; simp only [List.length_nil, Nat.zero_add] at this; omega)
                rw [← hv, ← hsv] at hrun
                have hge : ys.length ≤ grownCap w ys.length 0 ti.elem := grownCap_ge w _ _ _
                have hZ : (Builtin.zeroCells z.cells (grownCap w ys.length 0 ti.elem - ys.length)).toList.length = (grownCap w ys.length 0 ti.elem - ys.length) * e.size := by
                  have := size_zeroCells z.cells (grownCap w ys.length 0 ti.elem - ys.length)
                  rw [hzl] at this
                  exact this
                have hA : ns.toArray ++ Builtin.zeroCells z.cells (grownCap w ys.length 0 ti.elem - ys.length) = (ns ++ (Builtin.zeroCells z.cells (grownCap w ys.length 0 ti.elem - ys.length)).toList).toArray := by
                  apply Array.ext'; simp
                rw [hA] at hrun
                refine good_of (col' := newCol w col fun o => if o < ns.length then .imm else .sp d) (blk' := blk) (hexec hrun) ?_
                rw [hdst]
                exact hr1.newRow (hd d hdst) (e := e) (xs := ys) (es := ns) (.inr rfl) ti.elem hns' hge (by
                  rw [List.length_append, hZ, hln, hsz, ← Nat.add_mul]
                  congr 1; omega)
          · have hsp := hs.2 rfl
            rcases hsp with hn | ⟨b2, o2, n2, cap2, hv2, hB, hcap2, hsp⟩
            · rw [hsv] at hn; simp at hn
            · rw [hsv] at hv2
              simp only [Value.slice.injEq, Option.some.injEq, Addr.mk.injEq, and_true] at hv2
              obtain ⟨⟨rfl, rfl⟩, rfl, rfl⟩ := hv2
              have hns2 : ∀ y, getE F1.v (slot s) ≠ .val y true := by
                rcases hns with hn | hn
                · rw [hsv] at hn; simp at hn
                · exact hn
              have hesl : es.length = xs.length * e.size := RepL.length (fun _ _ h => h.length) hes
              have helsz : elSz (Ty.sl e) = e.size := rfl
              simp only [helsz] at hsp
              by_cases h0 : ys.length = 0
              · have : ys = [] := List.eq_nil_of_length_eq_zero h0
                subst this
                obtain ⟨q0, c0', hq0⟩ : ∃ q0 c0', a.eval x = .slice q0 0 c0' := by
                  rcases hys with ⟨hv, _⟩ | ⟨_, _, _, _, hv, _⟩
                  · exact ⟨_, _, hv⟩
                  · exact ⟨_, _, hv⟩
                have hS : Same w w col (recolor col (.sp (slot s)) (.sp d)) (· = .sp (slot s)) := recolor_same
                refine good_of (v := a.eval s) (col' := recolor col (.sp (slot s)) (.sp d)) (blk' := blk) (hexec (by rw [hsv, hq0]; exact run_append_none t o.type ti.elem i hu hi _ (by simp) xs.length cap q0 c0' hcap)) ?_
                rw [hdst]
                simp only [List.append_nil]
                exact hr1.put (T := (· = .sp (slot s))) (hd d hdst) hr1.below hS (by simp) (recolor_old (by simp) hr1.old) (fun s' hne hT' y hy => by
                  simp only [Tag.sp.injEq] at hT'; subst hT'; exact hns2 y hy) (by simp) (by simp) ⟨hS.repV (by simp) hs.1, fun _ => recolor_spare (hs.2 rfl)⟩
              · rcases hys with ⟨_, hv⟩ | ⟨b', off', cap', ns, hv, hcap', hns', hrg', him'⟩
                · exact absurd (by have hv' : ys = [] := hv; rw [hv']; rfl) h0
                · have hln : ns.length = ys.length * i.size := by rw [hsz]; exact RepL.length (fun _ _ h => h.length) hns'
                  have hone := RepL.one (fun _ _ h => h.one) hns'
                  by_cases hroom : xs.length + ys.length ≤ cap
                  · have hcapm : (xs.length + ys.length) * e.size ≤ cap * e.size := Nat.mul_le_mul_right _ hroom
                    have hmul : (xs.length + ys.length) * e.size = xs.length * e.size + ys.length * e.size := Nat.add_mul _ _ _
                    have hrun := run_append_mid (P := P) (w := w) t o.type ti.elem i hu hi b off xs.length cap ⟨b', off', none⟩ ys.length cap' ns hln (range_add hrg') hone hroom (fun j hj => by
                      have := (hsp (xs.length * e.size + j) (by omega)).2 (by rw [hln, hsz] at hj; omega)
                      rw [hsz]
                      rw [← Nat.add_assoc] at this
                      exact this)
                    obtain ⟨col', hg⟩ := hr1.grown hns2 (hd d hdst) hes hrg him hns' hB.1 hroom hB.2 hsp
                    rw [← hv, ← hsv] at hrun
                    refine good_of (col' := col') (blk' := blk) (hexec hrun) ?_
                    rw [hdst, hsz]
                    exact hg
                  · have hrun := run_append_grow (P := P) w t o.type ti.elem i z hu hi hz ⟨b, off, none⟩ xs.length cap es (by rw [hesl, hsz]) (range_add hrg) ⟨b', off', none⟩ ys.length cap' ns hln (range_add hrg') (by omega) (by omega) (growslice_fits (by omega) hmax)
                    rw [← hv, ← hsv] at hrun
                    have hge : xs.length + ys.length ≤ grownCap w (xs.length + ys.length) cap ti.elem := grownCap_ge w _ _ _
                    have hZ : (Builtin.zeroCells z.cells (grownCap w (xs.length + ys.length) cap ti.elem - (xs.length + ys.length))).toList.length = (grownCap w (xs.length + ys.length) cap ti.elem - (xs.length + ys.length)) * e.size := by
                      have := size_zeroCells z.cells (grownCap w (xs.length + ys.length) cap ti.elem - (xs.length + ys.length))
                      rw [hzl] at this
                      exact this
                    have hA : es.toArray ++ ns.toArray ++ Builtin.zeroCells z.cells (grownCap w (xs.length + ys.length) cap ti.elem - (xs.length + ys.length)) = ((es ++ ns) ++ (Builtin.zeroCells z.cells (grownCap w (xs.length + ys.length) cap ti.elem - (xs.length + ys.length))).toList).toArray := by
                      apply Array.ext'; simp
                    rw [hA] at hrun
                    refine good_of (col' := newCol w col fun o => if o < (es ++ ns).length then .imm else .sp d) (blk' := blk) (hexec hrun) ?_
                    rw [hdst]
                    have := hr1.newRow (hd d hdst) (e := e) (xs := xs ++ ys) (es := es ++ ns) (rest := (Builtin.zeroCells z.cells (grownCap w (xs.length + ys.length) cap ti.elem - (xs.length + ys.length))).toList) (cap := grownCap w (xs.length + ys.length) cap ti.elem) (.inr rfl) ti.elem (RepL.append hes hns') (by
                      rw [List.length_append]; exact hge) (by
                      rw [List.length_append, List.length_append, hZ, hesl, hln, hsz, ← Nat.add_mul, ← Nat.add_mul]
                      congr 1; omega)
                    rw [List.length_append (as := xs) (bs := ys)] at this
                    exact this
      · cases h
  · rename_i e xs q qown ti h1 h2 h3
    rw [h1] at hs
    rw [h2] at hx
    cases hb : Nat.beq t u && decide (ti.ty = .sl e) with
    | false => rw [hb] at h; cases h
    | true =>
      rw [hb] at h
      simp only [Bool.and_eq_true, decide_eq_true_eq] at hb
      obtain ⟨htu, hty⟩ := hb
      have := Nat.eq_of_beq_eq_true htu
      subst this
      simp only [cond_true] at h
      split at h
      · rename_i ys h4
        have := as_some h4
        subst this
        cases hlen : Nat.blt 0 ys.length && decide (xs.length + ys.length ≤ most) with
        | false => rw [hlen] at h; cases h
        | true =>
          rw [hlen] at h
          simp only [Bool.and_eq_true, decide_eq_true_eq, Nat.blt_eq] at hlen
          unfold most at hlen
          simp only [cond_true] at h
          exact append_fresh hT hop hc hr hd h3 hty hs.1 hs.2 hx.1 hlen.2 hlen.1 h
      · cases h
  · cases h


/-! ### make, cuts -/
theorem made_list (zs : List Value) (m : Nat) : ((Array.range (m * zs.length)).map (fun j => zs.toArray[j % zs.toArray.size]!)).toList = (List.replicate m zs).flatten := by
  apply List.ext_getElem?
  intro j
  have hfl : ∀ (m : Nat), (List.replicate m zs).flatten.length = m * zs.length := fun m => by simp
  by_cases hj : j < m * zs.length
  · have hpos : 0 < zs.length := by
      rcases Nat.eq_zero_or_pos zs.length with h | h
      · rw [h] at hj; simp at hj
      · exact h
    have hmod : j % zs.length < zs.length := Nat.mod_lt _ hpos
    have e1 : ((Array.range (m * zs.length)).map (fun j => zs.toArray[j % zs.toArray.size]!)).toList[j]? = some zs[j % zs.length] := by
      rw [List.getElem?_eq_getElem (by simpa using hj)]
      simp [hmod]
    rw [e1]
    clear e1
    have key : ∀ (m j : Nat), j < m * zs.length → (List.replicate m zs).flatten[j]? = zs[j % zs.length]? := by
      intro m
      induction m with
      | zero => intro j hj; simp at hj
      | succ m ih =>
        intro j hj
        rw [List.replicate_succ, List.flatten_cons]
        by_cases h : j < zs.length
        · rw [List.getElem?_append_left h, Nat.mod_eq_of_lt h]
        · rw [List.getElem?_append_right (by omega), ih _ (by rw [Nat.add_mul] at hj; omega)]
          congr 1
          rw [Nat.mod_eq_sub_mod (by omega : zs.length ≤ j)]
    rw [key m j hj]
    simp [hmod]
  · rw [List.getElem?_eq_none (by simpa using hj), List.getElem?_eq_none (by rw [hfl]; omega)]

theorem makeSlice_ok (hT : TTok P tt) {t : Nat} {l c : Operand} (hop : o.op = .makeSlice t l c) (hr : Rel w0 c0 n F a w col blk) (hd : ∀ d, o.dst = some d → d < n)
    (h : core Γ tt tr (getE F.v) (getB F.b) o some = some δ) : Good P w0 c0 n (F.app δ) o a w := by
  have hl := opn (tt := tt) hr 0 l
  have hc := opn (tt := tt) hr 0 c
  have intE : ∀ {e : Ent} {m : Int}, intOfE e = some m → ∃ k own, e = .val ⟨.int k, m⟩ own := fun {e m} he => by
    unfold intOfE at he
    split at he
    · simp only [Option.some.injEq] at he; subst he; exact ⟨_, _, rfl⟩
    · cases he
  unfold core at h
  simp only [hop] at h
  split at h
  · rename_i ti p q h1 h2 h3
    obtain ⟨kl, _, e2⟩ := intE h2
    obtain ⟨kc, _, e3⟩ := intE h3
    rw [e2] at hl; rw [e3] at hc
    have vl := repV_int hl.1
    have vc := repV_int hc.1
    split at h
    · rename_i e hty
      cases hb : decide (0 ≤ p) && decide (p ≤ q) && decide (q ≤ 2147483648) with
      | false => rw [hb] at h; cases h
      | true =>
        rw [hb] at h
        simp only [Bool.and_eq_true, decide_eq_true_eq] at hb
        obtain ⟨⟨b1, b2⟩, b3⟩ := hb
        simp only [cond_true] at h
        obtain ⟨d, hdst, rfl⟩ := put_some h
        have hti := hT t ti h1
        have hdesc := hti.desc
        rw [hty] at hdesc
        obtain ⟨hu, te, hte, hee⟩ := hdesc
        have hte' := hT ti.elem te hte
        obtain ⟨i, z, hi, hsz, hby, hz, hzc⟩ := hte'.info
        have hbytes := hte'.bytes
        rw [hee] at hsz hzc
        have hzl : (zeroC e).length = e.size := (RepC.zero (w := w) (I := fun _ _ => True) e).length
        have hq : ((q.toNat : Nat) : Int) = q := by omega
        have hrun := run_make (P := P) w t ti.elem i z hu hi hz kl kc p q b1 b2 (by
          rw [hby]
          have h1 : (te.bytes : Int) * q ≤ (65536 : Int) * q := Int.mul_le_mul_of_nonneg_right (by omega) (by omega)
          omega) (by omega)
        have hcells : madeCells z.cells (q.toNat * i.size) = ((List.replicate p.toNat (zeroC e)).flatten ++ (List.replicate (q.toNat - p.toNat) (zeroC e)).flatten).toArray := by
          apply Array.ext'
          have := made_list (zeroC e) q.toNat
          unfold madeCells
          rw [hzc, hsz, ← hzl, this, ← List.flatten_append, List.replicate_append_replicate]
          congr 2
          omega
        rw [hcells, ← vl, ← vc] at hrun
        refine good_of (col' := newCol w col fun o => if o < ((List.replicate p.toNat (zeroC e)).flatten).length then .imm else .sp d) (blk' := blk) (by unfold execOp; rw [hop]; exact run_v hrun) ?_
        rw [hdst]
        have := hr.newRow (hd d hdst) (e := e) (xs := List.replicate p.toNat (zeroD e)) (es := (List.replicate p.toNat (zeroC e)).flatten) (rest := (List.replicate (q.toNat - p.toNat) (zeroC e)).flatten) (cap := q.toNat) (.inl rfl) ti.elem
          (RepL.replicate (RepC.zero e) _) (by rw [List.length_replicate]; omega) (by
            rw [← List.flatten_append, List.replicate_append_replicate]
            simp only [List.length_flatten, List.map_replicate, List.sum_replicate_nat, hzl]
            congr 1; omega)
        rw [List.length_replicate (a := zeroD e)] at this
        exact this
    · cases h
  · cases h

end
end Go.Ev
