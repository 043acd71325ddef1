/-
  nest.Spots: the contract.
-/
import Derived.Test.YthappjffpkpojaaNeSpots
namespace Go.Ev
open Go Go.Proofs Go.RowKit Go.Sort
set_option linter.unusedVariables false
set_option linter.unusedSimpArgs false
set_option linter.unusedSectionVars false

noncomputable def ng16 (x : DenA ng1016.A) : Option (DenR ng2016.R) := match ng1016 x with
  | none => none
  | some (.inl l) => some l
  | some (.inr (xs, ys)) => match Nat.blt 0 xs.length && Nat.ble xs.length 12 && Nat.blt 0 ys.length && Nat.ble ys.length 12 with
    | true => ng2016 (uniq (isort xs), uniq (isort ys), ())
    | false => none

noncomputable def ncon16 : Con := ⟨16, ng1016.A, ng2016.R, false, ng16, none⟩

theorem size_put (a : Act) (d : Nat) (v : Value) : (a.put (some d) v).tmps.size = a.tmps.size := Array.size_setIfInBounds
theorem getD_put {a : Act} {d s : Nat} {v : Value} (h : d < a.tmps.size) : (a.put (some d) v).tmps.getD s undef = if s = d then v else a.tmps.getD s undef := getD_set _ _ _ _ h
theorem defers_put (a : Act) (d : Nat) (v : Value) : (a.put (some d) v).defers = a.defers := rfl

theorem retP_ret {F : Fr} {l : List (Ty.den nY44)} (h : retP .ret F = some (.inl l)) : retK ntt Try.f16 ng2016.R false .ret F = some l := by
  unfold retP at h
  simp only at h
  split at h
  · rename_i d own hd
    split at h
    · rename_i x hx
      simp only [Option.some.injEq, Sum.inl.injEq] at h
      subst h
      have hr : Try.f16.results.toList = [.tmp 10] := by kernel_rfl
      unfold retK
      simp only
      rw [hr]
      simp only [resDs, resD, hd]
      show decR ng2016.R [d] = some x
      exact hx
    · cases h
  · cases h

theorem retP_normal {F : Fr} {p : List Int × List Int} (h : retP .normal F = some (.inr p)) : getE F.v 11 = .val ⟨.sl (.int .i64), p.1⟩ true ∧ getE F.v 12 = .val ⟨.sl (.int .i64), p.2⟩ true := by
  unfold retP at h
  simp only at h
  split at h
  · rename_i d e hd he
    split at h
    · rename_i x y hx hy
      simp only [Option.some.injEq, Sum.inr.injEq] at h
      subst h
      rw [hd, he, as_some hx, as_some hy]
      exact ⟨rfl, rfl⟩
    · cases h
  · cases h

theorem retP_ret' {F : Fr} {p : List Int × List Int} (h : retP .ret F = some (.inr p)) : False := by
  unfold retP at h
  simp only at h
  split at h
  · split at h <;> simp at h
  · cases h

theorem retP_normal' {F : Fr} {l} (h : retP .normal F = some (.inl l)) : False := by
  unfold retP at h
  simp only at h
  split at h
  · split at h <;> simp at h
  · cases h

/-- The end of a function. -/
theorem fin_ok {w0 : World} {c0 : En} {n : Nat} {F' : Fr} {a' : Act} {w' : World} {col' : Col} {blk' : Nat → Nat} {P : Program} {tt : TT} (hT : TTok P tt) (c : Con) {fn gn : Func} (hgn : gn.results = fn.results) (hr' : Rel w0 c0 n F' a' w' col' blk') {e : Ex} {r : DenR c.res}
    (hk : retK tt gn c.res c.own e F' = some r) : bodyPost P fn (PostC c c0.c w0 r) e.exit' a' w' := by
  have fin : (match resDs tt F' fn.results.toList with
      | some l => bif ownOk c.own l then decR c.res (l.map (·.1)) else none
      | none => none) = some r → a'.defers = [] ∧ ∃ v, (results fn a'.tmps).run P w' = .ok v w' ∧ PostC c c0.c w0 r (.returned v) w' := fun hh => by
    refine ⟨hr'.defers, ?_⟩
    split at hh
    · rename_i l hl
      cases ho : ownOk c.own l with
      | false => rw [ho] at hh; cases hh
      | true =>
        rw [ho] at hh
        simp only [cond_true] at hh
        obtain ⟨vs', hv, hall⟩ := resDs_ok hT hr' hl
        obtain ⟨col2, h4, h5⟩ := res_ok hr' c.own hh ho hall
        exact ⟨_, run_results fn a'.tmps hv, _, col2, rfl, hr'.below, h4, h5⟩
    · cases hh
  cases e with
  | normal => unfold retK at hk; simp only at hk; rw [hgn] at hk; exact fin hk
  | ret => unfold retK at hk; simp only at hk; rw [hgn] at hk; exact fin hk
  | exit id => simp [retK] at hk

theorem fnIn32 : FnIn Try.prog 32 := ⟨Try.f32, by kernel_rfl, by kernel_rfl, by kernel_rfl⟩
theorem fnIn33 : FnIn Try.prog 33 := ⟨Try.f33, by kernel_rfl, by kernel_rfl, by kernel_rfl⟩

theorem spots_tail : tailOf (codeOf Try.f16) 4 = .seq (subAt (codeOf Try.f16) [1, 1, 1, 1, 0]) (.seq (subAt (codeOf Try.f16) [1, 1, 1, 1, 1, 0]) (.seq (subAt (codeOf Try.f16) [1, 1, 1, 1, 1, 1, 0]) (tailOf (codeOf Try.f16) 7))) := by kernel_rfl

theorem sort_row {b o cap : Nat} {zs : List Int} {w : World} (hH : Holds (Value.int .i64) w b o zs.toArray) (hn : zs.length ≤ 12) :
    Calls Try.prog 32 #[.slice (some ⟨b, o, none⟩) zs.length cap] w fun e w' => e = .returned (.tuple #[]) ∧ ∃ n, w' = putRow (Value.int .i64) (Sort.ahead w n) b o (isort zs).toArray := by
  have h := sort_few b o cap zs.toArray w hH (by simpa using hn)
  rw [List.size_toArray, insertionSort_isort] at h
  exact h

theorem compact_row {b o cap : Nat} {zs : List Int} {w : World} (hH : Holds (Value.int .i64) w b o zs.toArray) (hn : zs.length ≤ 12) (hc : zs.length ≤ cap) :
    Calls Try.prog 33 #[.slice (some ⟨b, o, none⟩) zs.length cap] w fun e w' => e = .returned (.slice (some ⟨b, o, none⟩) (uniq zs).length cap) ∧
      ∃ q, w' = putRow (Value.int .i64) (Sort.ahead w q) b o (uniq zs ++ List.replicate (zs.length - (uniq zs).length) 0).toArray := by
  have h := Try.slices_Compact_int b o cap zs w hH (by omega) hc
  rw [compact_uniq] at h
  exact h

/-- The start of the last part: two rows of the call's own. -/
theorem Rel.two {w w4 : World} {c0 : Col} {a4 : Act} {b1 b2 o1 o2 cap1 cap2 n : Nat} {xs ys us vs : List Int} {F : Fr} (hB : Below w.heap.size w w4) (h1 : w.heap.size ≤ b1) (h2 : w.heap.size ≤ b2) (hH1 : Holds (Value.int .i64) w4 b1 o1 (xs ++ us).toArray)
    (hH2 : Holds (Value.int .i64) w4 b2 o2 (ys ++ vs).toArray) (hc1 : xs.length ≤ cap1) (hc2 : ys.length ≤ cap2) (e1 : a4.tmps.getD 11 undef = .slice (some ⟨b1, o1, none⟩) xs.length cap1) (e2 : a4.tmps.getD 12 undef = .slice (some ⟨b2, o2, none⟩) ys.length cap2)
    (hd : a4.defers = []) (hs : a4.tmps.size = n) (hF : ∀ s, getE F.v s = if s = 12 then .val ⟨.sl (.int .i64), ys⟩ false else if s = 11 then .val ⟨.sl (.int .i64), xs⟩ false else .undef) (hFb : F.b = []) :
    Rel w ⟨c0, w, oldCol c0, fun _ => w.heap.size⟩ n F a4 w4 (fun b o => if b < w.heap.size then oldCol c0 b o else .imm) (fun _ => w.heap.size) := by
  refine ⟨hB, fun b o hb => if_pos hb, ⟨⟨hB.size, fun b o hb => hB.frozen (p := ⟨b, o, none⟩) hb⟩, fun b o hb _ => ⟨fun _ => ⟨hB.cell (p := ⟨b, o, none⟩) hb, hB.frozen (p := ⟨b, o, none⟩) hb⟩, if_pos hb⟩⟩, fun _ _ => rfl, fun s => ?_, fun k bx hk => ?_, hd, hs⟩
  · rw [hF s]
    split
    · rename_i h; subst h
      rw [e2]
      exact ⟨rep_row hH2 hc2 fun j _ => if_neg (by omega), fun h => by cases h⟩
    · split
      · rename_i _ h; subst h
        rw [e1]
        exact ⟨rep_row hH1 hc1 fun j _ => if_neg (by omega), fun h => by cases h⟩
      · trivial
  · rw [hFb] at hk; simp [getB] at hk

theorem wpSh_two {P : Program} {Q : Exit → Act → World → Prop} {a : Act} {w : World} {d1 d2 s f : Nat} (h1 : d1 < a.tmps.size) (h2 : d2 < a.tmps.size) (hd : d1 ≠ 11 ∧ d1 ≠ 12 ∧ d2 ≠ 11 ∧ d2 ≠ 12)
    (h : Calls P f #[a.tmps.getD s undef] w fun e w' => ∃ v, e = .returned v ∧ ∀ a', a'.tmps.size = a.tmps.size → a'.defers = a.defers → a'.tmps.getD 11 undef = a.tmps.getD 11 undef → a'.tmps.getD 12 undef = a.tmps.getD 12 undef → Q .normal a' w') :
    wpSh P Q [(d1, .mv s), (d2, .cl f d1)] a w := by
  simp only [wpSh]
  rw [getD_put h1, if_pos rfl]
  refine h.mono ?_
  rintro e w' ⟨v, rfl, hq⟩
  refine ⟨v, rfl, hq _ (by simp only [size_put]) (by simp only [defers_put]) ?_ ?_⟩
  · rw [getD_put (by simpa only [size_put] using h2), if_neg (by omega), getD_put h1, if_neg (by omega)]
  · rw [getD_put (by simpa only [size_put] using h2), if_neg (by omega), getD_put h1, if_neg (by omega)]

theorem wpSh_six {P : Program} {Q : Exit → Act → World → Prop} {a : Act} {w : World} (hs : a.tmps.size = 93)
    (h : Calls P 33 #[a.tmps.getD 11 undef] w fun e w1 => ∃ v, e = .returned v ∧ Calls P 33 #[a.tmps.getD 12 undef] w1 fun e w2 => ∃ u, e = .returned u ∧
      ∀ a', a'.tmps.size = a.tmps.size → a'.defers = a.defers → a'.tmps.getD 11 undef = v → a'.tmps.getD 12 undef = u → Q .normal a' w2) :
    wpSh P Q [(68, .mv 11), (69, .cl 33 68), (70, .mv 12), (71, .cl 33 70), (11, .mv 69), (12, .mv 71)] a w := by
  simp only [wpSh]
  rw [getD_put (by omega), if_pos rfl]
  refine h.mono ?_
  rintro e w1 ⟨v, rfl, hq⟩
  refine ⟨v, rfl, ?_⟩
  rw [getD_put (by simp only [size_put]; omega), if_pos rfl, getD_put (by simp only [size_put]; omega), if_neg (by omega), getD_put (by omega), if_neg (by omega)]
  refine hq.mono ?_
  rintro e w2 ⟨u, rfl, hq⟩
  refine ⟨u, rfl, hq _ (by simp only [size_put]) (by simp only [defers_put]) ?_ ?_⟩
  · rw [getD_put (by simp only [size_put]; omega), if_neg (by omega), getD_put (by simp only [size_put]; omega), if_pos rfl]
    rw [getD_put (by simp only [size_put]; omega), if_neg (by omega), getD_put (by simp only [size_put]; omega), if_neg (by omega), getD_put (by simp only [size_put]; omega), if_pos rfl]
  · rw [getD_put (by simp only [size_put]; omega), if_pos rfl]
    rw [getD_put (by simp only [size_put]; omega), if_neg (by omega), getD_put (by simp only [size_put]; omega), if_pos rfl]

theorem spots_hR {x : DenA ng1016.A} {s} (h : ng1016 x = some s) : run ng1016.G ntt ng1016.cut ng1016.keep (fun _ _ => BIG) (preOf (codeOf Try.f16) 4) [] (startF ng1016.keep [14] (encA ng1016.A x)) retP = some s := by
  have h' : ng1016.N BIG x = some s := h
  unfold ng1016.N at h'
  rw [show codeOf Try.f1016 = preOf (codeOf Try.f16) 4 from rfl] at h'
  exact h'

theorem spots_hR2 {xs ys : List Int} {r} (h : ng2016 (xs, ys, ()) = some r) : run ng2016.G ntt ng2016.cut ng2016.keep (fun _ _ => BIG) (tailOf (codeOf Try.f16) 7) []
    ⟨(setE (setE (ng2016.keep.map fun s => (s, .undef)) 11 (.val ⟨(.sl (.int .i64)), xs⟩ false)) 12 (.val ⟨(.sl (.int .i64)), ys⟩ false)), []⟩ (retK ntt Try.f2016 ng2016.R false) = some r := by
  have h' : ng2016.N BIG (xs, ys, ()) = some r := h
  unfold ng2016.N at h'
  rw [show codeOf Try.f2016 = tailOf (codeOf Try.f16) 7 from rfl] at h'
  exact h'

theorem spots_mid {w w' : World} {c0 : Col} {F' : Fr} {a' : Act} {col' : Col} {blk' : Nat → Nat} {xs ys : List Int} {r : DenR ng2016.R} (hr' : Rel w ⟨c0, w, oldCol c0, fun _ => w.heap.size⟩ 93 F' a' w' col' blk')
    (h11 : getE F'.v 11 = .val ⟨.sl (.int .i64), xs⟩ true) (h12 : getE F'.v 12 = .val ⟨.sl (.int .i64), ys⟩ true) (hx0 : 0 < xs.length) (hx : xs.length ≤ 12) (hy0 : 0 < ys.length) (hy : ys.length ≤ 12)
    (hR : ng2016 (uniq (isort xs), uniq (isort ys), ()) = some r) : (tailOf (codeOf Try.f16) 4).wp Try.prog (bodyPost Try.prog Try.f16 (PostC ncon16 c0 w r)) a' w' := by
  have e11 := hr'.ents 11
  have e12 := hr'.ents 12
  rw [h11] at e11
  rw [h12] at e12
  obtain ⟨b1, o1, cap1, hv1, hc1, hB1, hH1, hm1⟩ := row_of (zs := xs) (by intro h; subst h; simp at hx0) e11.1 (e11.2 rfl)
  obtain ⟨b2, o2, cap2, hv2, hc2, hB2, hH2, hm2⟩ := row_of (zs := ys) (by intro h; subst h; simp at hy0) e12.1 (e12.2 rfl)
  have hne : b1 ≠ b2 := by
    intro e
    subst e
    have p := hm1 (xs.length + ys.length + o2) (by omega)
    have q := hm2 (xs.length + ys.length + o1) (by omega)
    rw [show o2 + (xs.length + ys.length + o1) = o1 + (xs.length + ys.length + o2) by omega] at q
    rw [p] at q
    simp at q
  have hsz : a'.tmps.size = 93 := hr'.size
  have hbel := hr'.below
  have hdef := hr'.defers
  clear e11 e12 hm1 hm2 h11 h12 hr'
  have hl1 := isort_length xs
  have hl2 := isort_length ys
  rw [spots_tail]
  -- Sort(xs)
  refine wp_seq (wp_reg (shs := [(64, .mv 11), (65, .cl 32 64)]) (by kernel_rfl) ⟨fnIn32, trivial⟩ (wpSh_two (by omega) (by omega) (by omega) ?_))
  rw [hv1]
  refine (sort_row hH1 hx).mono ?_
  rintro e w1 ⟨rfl, n1, hw1⟩
  refine ⟨_, rfl, fun a1 hsz1 hdef1 hv11 hv21 => ?_⟩
  show Code.wp _ _ _ a1 w1
  rw [hv2] at hv21
  rw [hsz] at hsz1
  rw [hdef] at hdef1
  have hH1' : Holds (Value.int .i64) w1 b1 o1 (isort xs).toArray := by rw [hw1]; exact holds_put hH1 (by simp [isort_length])
  have hH2' : Holds (Value.int .i64) w1 b2 o2 ys.toArray := by rw [hw1]; exact holds_other hH2 (Ne.symm hne)
  have hbel1 : Below w.heap.size w w1 := by rw [hw1]; exact below_putRow hbel hB1
  clear hw1 hH1 hH2 hbel hv1 hv2 hsz hdef
  -- Sort(ys)
  refine wp_seq (wp_reg (shs := [(66, .mv 12), (67, .cl 32 66)]) (by kernel_rfl) ⟨fnIn32, trivial⟩ (wpSh_two (by omega) (by omega) (by omega) ?_))
  rw [hv21]
  refine (sort_row hH2' hy).mono ?_
  rintro e w2 ⟨rfl, n2, hw2⟩
  refine ⟨_, rfl, fun a2 hsz2 hdef2 hv12 hv22 => ?_⟩
  show Code.wp _ _ _ a2 w2
  rw [hv11] at hv12
  rw [hsz1] at hsz2
  rw [hdef1] at hdef2
  have hH1'' : Holds (Value.int .i64) w2 b1 o1 (isort xs).toArray := by rw [hw2]; exact holds_other hH1' hne
  have hH2'' : Holds (Value.int .i64) w2 b2 o2 (isort ys).toArray := by rw [hw2]; exact holds_put hH2' (by simp [isort_length])
  have hbel2 : Below w.heap.size w w2 := by rw [hw2]; exact below_putRow hbel1 hB2
  clear hw2 hH1' hH2' hbel1 hv11 hv21 hsz1 hdef1
  -- Compact(xs), Compact(ys)
  refine wp_seq (wp_reg (shs := [(68, .mv 11), (69, .cl 33 68), (70, .mv 12), (71, .cl 33 70), (11, .mv 69), (12, .mv 71)]) (by kernel_rfl) ⟨fnIn33, fnIn33, trivial⟩ (wpSh_six (by omega) ?_))
  rw [hv12, hv22, ← hl1, ← hl2]
  refine (compact_row hH1'' (by omega) (by omega)).mono ?_
  rintro e w3 ⟨rfl, n3, hw3⟩
  refine ⟨_, rfl, ?_⟩
  have hu1 := uniq_length (isort xs)
  have hu2 := uniq_length (isort ys)
  have hH1c : Holds (Value.int .i64) w3 b1 o1 (uniq (isort xs) ++ List.replicate ((isort xs).length - (uniq (isort xs)).length) 0).toArray := by rw [hw3]; exact holds_put hH1'' (by simp; omega)
  have hH2c : Holds (Value.int .i64) w3 b2 o2 (isort ys).toArray := by rw [hw3]; exact holds_other hH2'' (Ne.symm hne)
  have hbel3 : Below w.heap.size w w3 := by rw [hw3]; exact below_putRow hbel2 hB1
  clear hw3 hH1'' hH2'' hbel2
  refine (compact_row hH2c (by omega) (by omega)).mono ?_
  rintro e w4 ⟨rfl, n4, hw4⟩
  refine ⟨_, rfl, fun a4 hsz4 hdef4 hv14 hv24 => ?_⟩
  show Code.wp _ _ _ a4 w4
  have hH1d : Holds (Value.int .i64) w4 b1 o1 (uniq (isort xs) ++ List.replicate ((isort xs).length - (uniq (isort xs)).length) 0).toArray := by rw [hw4]; exact holds_other hH1c hne
  have hH2d : Holds (Value.int .i64) w4 b2 o2 (uniq (isort ys) ++ List.replicate ((isort ys).length - (uniq (isort ys)).length) 0).toArray := by rw [hw4]; exact holds_put hH2c (by simp; omega)
  have hbel4 : Below w.heap.size w w4 := by rw [hw4]; exact below_putRow hbel3 hB2
  rw [hsz2] at hsz4
  rw [hdef2] at hdef4
  clear hw4 hH1c hH2c hbel3 hsz2 hdef2 hv12 hv22
  have hrel := Rel.two (c0 := c0) (n := 93) (F := ⟨(setE (setE (ng2016.keep.map fun s => (s, .undef)) 11 (.val ⟨(.sl (.int .i64)), uniq (isort xs)⟩ false)) 12 (.val ⟨(.sl (.int .i64)), uniq (isort ys)⟩ false)), []⟩) hbel4 hB1 hB2 hH1d hH2d (by omega) (by omega) hv14 hv24 hdef4 hsz4
    (fun s => by
      show getE (setE (setE _ 11 _) 12 _) s = _
      rw [getE_setE, getE_setE, getE_undef]) rfl
  refine run_ok (Γ := ng2016.G) (tt := ntt) (cut := ng2016.cut) (keep := ng2016.keep) (fu := fun _ _ => BIG) (r := r) ntt_ok (fun c hc => (noneS (J := Jn) c hc).at Jn_keeps trivial) nmixed (tailOf (codeOf Try.f16) 7) (by kernel_rfl) [] _ (retK ntt Try.f2016 ng2016.R false) _ a4 w4 _ _ (spots_hR2 hR) hrel ?_
  intro e F' a' w' col' blk' hr' hk
  exact fin_ok ntt_ok ncon16 (fn := Try.f16) (gn := Try.f2016) rfl hr' hk

set_option maxHeartbeats 4000000 in
theorem nsound16 : SoundC Try.prog Jn ncon16 := by
  refine ⟨⟨Try.f16, by kernel_rfl, by kernel_rfl, by kernel_rfl⟩, fun _ w c0 vs x r hw hx ha => ?_, fun _ _ _ h => absurd h (by simp [ncon16])⟩
  have hb : Try.f16.body = some (codeOf Try.f16) := by kernel_rfl
  have hn : Try.f16.ntmps = 93 := by kernel_rfl
  have hargs := encA_ok ha
  have hlen : vs.length = 5 := by
    have := hargs.length
    rw [encA_length] at this
    exact this.symm
  have hΓ : ∀ c ∈ ng1016.G, SoundC Try.prog Jn c := consS nsound19 (consS nsound31 noneS)
  refine calls_of_wp (f := 16) (fn := Try.f16) (by kernel_rfl) hb ?_
  have hstart := start_rel (keep := ng1016.keep) (boxes := [14]) (n := 93) (w := w) (c0 := c0) (by omega) hargs
  rw [hn]
  have hx' : ng16 x = some r := hx
  unfold ng16 at hx'
  split at hx'
  · cases hx'
  · rename_i l hl
    have hx2 : (some l : Option (DenR ng2016.R)) = some r := hx'
    have hx3 : l = r := Option.some.inj hx2
    subst hx3
    refine run_pre ntt_ok (fun c hc => (hΓ c hc).at Jn_keeps trivial) nmixed 4 (codeOf Try.f16) (by kernel_rfl) (by kernel_rfl) [] _ retP _ _ w (oldCol c0) _ (spots_hR hl) hstart ?_
    intro e F' a' w' col' blk' hr' hk
    cases e with
    | normal => exact (retP_normal' hk).elim
    | ret => exact fin_ok ntt_ok ncon16 (fn := Try.f16) (gn := Try.f16) rfl hr' (retP_ret hk)
    | exit i => cases hk
  · rename_i xs ys hl
    split at hx'
    · rename_i hc
      simp only [Bool.and_eq_true, Nat.blt_eq, Nat.ble_eq] at hc
      obtain ⟨⟨⟨h1, h2⟩, h3⟩, h4⟩ := hc
      refine run_pre ntt_ok (fun c hc => (hΓ c hc).at Jn_keeps trivial) nmixed 4 (codeOf Try.f16) (by kernel_rfl) (by kernel_rfl) [] _ retP _ _ w (oldCol c0) _ (spots_hR hl) hstart ?_
      intro e F' a' w' col' blk' hr' hk
      cases e with
      | normal =>
        obtain ⟨h11, h12⟩ := retP_normal hk
        exact spots_mid hr' h11 h12 h1 h2 h3 h4 hx'
      | ret => exact (retP_ret' hk).elim
      | exit i => cases hk
    · cases hx'
end Go.Ev
