/-
  DrillInside: the plain law: the moves of a bore stay in the hole.
-/
import Derived.Test.YteiifpiainmgkaaDoorLawX
namespace Go.Ev
open Go Go.Proofs
set_option linter.unusedSimpArgs false
set_option linter.unusedSectionVars false
set_option linter.unusedVariables false

/-! ## Depths -/
section
variable {D N : Int} (hD : 1 ≤ D ∧ D ≤ 20000) (hN : 1 ≤ N ∧ N ≤ 40)
include hD hN

theorem boreZ_zero : boreZ D (4 * N) 0 = 0 := by
  unfold boreZ
  rw [Int.zero_mul]
  exact Int.ediv_eq_zero_of_lt (by omega) (by omega)

theorem boreZ_last : boreZ D (4 * N) (4 * N) = D := by
  unfold boreZ
  have e : 4 * N * D + 4 * N - 1 = (4 * N - 1) + D * (4 * N) := by grind
  rw [e, Int.add_mul_ediv_right _ _ (by omega), Int.ediv_eq_zero_of_lt (by omega) (by omega)]
  omega

theorem boreZ_mono {p q : Int} (h : p ≤ q) : boreZ D (4 * N) p ≤ boreZ D (4 * N) q := by
  unfold boreZ
  refine Int.ediv_le_ediv (by omega) ?_
  have := Int.mul_le_mul_of_nonneg_right (a := p) (b := q) (c := D) h (by omega)
  omega

theorem boreZ_bound {q : Int} (h0 : 0 ≤ q) (h1 : q ≤ 4 * N) : 0 ≤ boreZ D (4 * N) q ∧ boreZ D (4 * N) q ≤ D := by
  have a := boreZ_mono hD hN h0
  have b := boreZ_mono hD hN h1
  rw [boreZ_zero hD hN] at a
  rw [boreZ_last hD hN] at b
  exact ⟨a, b⟩

theorem boreZ_step {q s : Int} (h0 : 4 ≤ q) (hs : D ≤ N * s) : boreZ D (4 * N) q - boreZ D (4 * N) (q - 4) ≤ s + 1 := by
  unfold boreZ
  have e : q * D + 4 * N - 1 = ((q - 4) * D + 4 * N - 1) + 4 * D := by grind
  rw [e]
  generalize (q - 4) * D + 4 * N - 1 = A
  have h1 : A + 4 * D ≤ A + s * (4 * N) := by
    have : s * (4 * N) = 4 * (N * s) := by grind
    omega
  have h2 : (A + 4 * D) / (4 * N) ≤ (A + s * (4 * N)) / (4 * N) := Int.ediv_le_ediv (by omega) h1
  rw [Int.add_mul_ediv_right _ _ (by omega)] at h2
  omega
end

/-! ## The list -/
section
variable (ax ay c top D N feed plunge : Int) (hN : 1 ≤ N ∧ N ≤ 40)
include hN

theorem boreL_len : (boreL ax ay c top D N feed plunge).length = (4 * N).toNat + 4 := by
  simp [boreL] <;> omega

omit hN in
theorem boreL_zero : (boreL ax ay c top D N feed plunge)[0]? = some ((2 : Int), (ax + c, ay, (0 : Int), ()), ((0 : Int), (0 : Int), ()), plunge, ()) := by
  simp [boreL]

theorem boreL_mid (i : Nat) (h0 : 1 ≤ i) (h1 : (i : Int) ≤ 4 * N) : (boreL ax ay c top D N feed plunge)[i]? = some (boreE ax ay c D (4 * N) feed i) := by
  unfold boreL
  rw [List.append_assoc, List.getElem?_append_right (by simpa using h0), List.getElem?_append_left (by simp; omega)]
  rw [List.getElem?_map, List.getElem?_range' (by simp; omega)]
  simp only [List.length_cons, List.length_nil, Option.map_some]
  rw [show 1 + 1 * (i - (0 + 1)) = i by omega]

theorem boreL_tail (j : Nat) (hj : j < 3) : (boreL ax ay c top D N feed plunge)[(4 * N).toNat + 1 + j]? =
    ([((4 : Int), (ax + c, ay, -D, ()), (ax, ay, ()), feed, ()), ((2 : Int), (ax, ay, -D, ()), ((0 : Int), (0 : Int), ()), feed, ()), ((1 : Int), (ax, ay, top, ()), ((0 : Int), (0 : Int), ()), (0 : Int), ())] : List Mv)[j]? := by
  unfold boreL
  rw [List.getElem?_append_right (by simp <;> omega)]
  congr 1
  simp <;> omega
end

/-! ## The law's loops -/
section
variable {ax ay c top D N s feed plunge r : Int} {num kind rad flute len : Int}

/-- What the law knows of a bore. -/
structure BoreOk (ax ay c top D N s feed plunge : Int) : Prop where
  hax : InOk ax
  hay : InOk ay
  hc : 1 ≤ c ∧ c ≤ 10000000
  hx1 : InOk (ax + c)
  hx2 : InOk (ax - c)
  hy1 : InOk (ay + c)
  hy2 : InOk (ay - c)
  htop : 0 ≤ top ∧ top ≤ 10000000
  hD : 1 ≤ D ∧ D ≤ 20000
  hN : 1 ≤ N ∧ N ≤ 40
  hs : 1 ≤ s ∧ s ≤ 10000000
  hstep : D ≤ N * s
  hfeed : 0 < feed
  hplunge : 0 < plunge

variable (B : BoreOk ax ay c top D N s feed plunge)
include B

/-- All positions of a move are good. -/
theorem J1 (l : List Mv) (ps : List Ps) (hps : ∀ p ∈ ps, PG ax ay c D p) (hl : (ps.length : Int) ≤ 20000) (n0 : Nat) (i len0 : Int) (b10 : Ps) (b12 : Mv) : ∀ (m j fuel : Nat), j + m = ps.length → m < fuel →
    dg7.L1 BIG n0 fuel l c l len0 i ps (ps.length : Int) (j : Int) (ax, ay, ()) (r, top, D, ()) (num, kind, rad, flute, len, s, feed, plunge, ()) b10 b12 =
    dg7.S2 BIG n0 l c l len0 i (ax, ay, ()) (r, top, D, ()) (num, kind, rad, flute, len, s, feed, plunge, ()) b10 b12 := by
  have hc := B.hc
  have hD := B.hD
  intro m
  induction m with
  | zero =>
    intro j fuel hj hf
    obtain ⟨fuel, rfl⟩ : ∃ n', fuel = n' + 1 := ⟨fuel - 1, by omega⟩
    rw [dg7.L1_eq, cnd (by omega)]
  | succ m ih =>
    intro j fuel hj hf
    obtain ⟨fuel, rfl⟩ : ∃ n', fuel = n' + 1 := ⟨fuel - 1, by omega⟩
    have g0 := hps ps[j] (List.getElem_mem (by omega))
    rw [dg7.L1_eq, cd (by omega), idx_nat, List.getElem?_eq_getElem (by omega), Option.bind_some]
    generalize ps[j] = p at *
    obtain ⟨px, py, pz, _⟩ := p
    obtain ⟨g1, g2, g3, g4⟩ : PGi ax ay c D px py pz := g0
    change Int at px py pz
    have hdx : (px - ax) * (px - ax) ≤ 100000000000000 := by
      have : 0 ≤ (py - ay) * (py - ay) := by
        rcases Int.le_total 0 (py - ay) with h | h
        · exact Int.mul_nonneg h h
        · exact Int.mul_nonneg_of_nonpos_of_nonpos h h
      have h2 : c * c ≤ 10000000 * 10000000 := Int.mul_le_mul hc.2 hc.2 (by omega) (by omega)
      omega
    have hdx0 : 0 ≤ (px - ax) * (px - ax) := by
      rcases Int.le_total 0 (px - ax) with h | h
      · exact Int.mul_nonneg h h
      · exact Int.mul_nonneg_of_nonpos_of_nonpos h h
    have hdy0 : 0 ≤ (py - ay) * (py - ay) := by
      rcases Int.le_total 0 (py - ay) with h | h
      · exact Int.mul_nonneg h h
      · exact Int.mul_nonneg_of_nonpos_of_nonpos h h
    have hcc : c * c ≤ 10000000 * 10000000 := Int.mul_le_mul hc.2 hc.2 (by omega) (by omega)
    have hcc0 : 0 ≤ c * c := Int.mul_nonneg (by omega) (by omega)
    have ex : IntKind.i64.wrap (px - ax) = px - ax := w64 (by omega) (by omega)
    have ey : IntKind.i64.wrap (py - ay) = py - ay := w64 (by omega) (by omega)
    have exx : IntKind.i64.wrap ((px - ax) * (px - ax)) = (px - ax) * (px - ax) := w64 (by omega) (by omega)
    have eyy : IntKind.i64.wrap ((py - ay) * (py - ay)) = (py - ay) * (py - ay) := w64 (by omega) (by omega)
    have es : IntKind.i64.wrap ((px - ax) * (px - ax) + (py - ay) * (py - ay)) = (px - ax) * (px - ax) + (py - ay) * (py - ay) := w64 (by omega) (by omega)
    have ec : IntKind.i64.wrap (c * c) = c * c := w64 (by omega) (by omega)
    have ez : IntKind.i64.wrap (0 - D) = -D := by rw [w64 (by omega) (by omega)]; omega
    rw [ex, ey, exx, eyy, es, ec, ez, cnd (show ¬ (px - ax) * (px - ax) + (py - ay) * (py - ay) > c * c by omega), cnd (show ¬ (pz : Int) < -D by omega), w64 (n := (j : Int) + 1) (by omega) (by omega), show ((j : Int) + 1) = ((j + 1 : Nat) : Int) by simp]
    exact ih (j + 1) fuel (by omega) (by omega)

/-- One move. -/
theorem J0 (l : List Mv) (i : Nat) (hi : i < l.length) (hl : l.length ≤ 20000) (fx fy fz k tx ty tz cx cy rate : Int) (hm : l[i]? = some (k, (tx, ty, tz, ()), (cx, cy, ()), rate, ()))
    (hv : dg21 ((fx, fy, fz, ()), (k, (tx, ty, tz, ()), (cx, cy, ()), rate, ()), ()) = some 0)
    (hst : k = 4 → 4 ≤ i → ∃ (m : Mv) (mz : Int), l[i - 4]? = some m ∧ m.2.1.2.2.1 = mz ∧ -30000 ≤ mz - tz ∧ mz - tz ≤ s + 1 ∧ mz - tz ≤ 30000)
    (hp : ∃ ps, (∀ p ∈ ps, PG ax ay c D p) ∧ (ps.length : Int) ≤ 20000 ∧ dg22 ((fx, fy, fz, ()), [(k, (tx, ty, tz, ()), (cx, cy, ()), rate, ())], ()) = some (ps, 0)) (fuel : Nat) :
    dg7.L0 BIG (fuel + 1) l c l (l.length : Int) (i : Int) (ax, ay, ()) (r, top, D, ()) (num, kind, rad, flute, len, s, feed, plunge, ()) (fx, fy, fz, ()) =
    dg7.L0 BIG fuel l c l (l.length : Int) ((i + 1 : Nat) : Int) (ax, ay, ()) (r, top, D, ()) (num, kind, rad, flute, len, s, feed, plunge, ()) (tx, ty, tz, ()) := by
  obtain ⟨ps, p1, p2, p3⟩ := hp
  have hs := B.hs
  have fin : dg7.S0 BIG fuel l c l (l.length : Int) (i : Int) (ax, ay, ()) (r, top, D, ()) (num, kind, rad, flute, len, s, feed, plunge, ()) (fx, fy, fz, ()) (k, (tx, ty, tz, ()), (cx, cy, ()), rate, ()) =
      dg7.L0 BIG fuel l c l (l.length : Int) ((i + 1 : Nat) : Int) (ax, ay, ()) (r, top, D, ()) (num, kind, rad, flute, len, s, feed, plunge, ()) (tx, ty, tz, ()) := by
    rw [dg7.S0_eq, p3, Option.bind_some, bne_self_eq_false, cond_false]
    have := J1 (r := r) (num := num) (kind := kind) (rad := rad) (flute := flute) (len := len) B l ps p1 p2 fuel (i : Int) (l.length : Int) (fx, fy, fz, ()) (k, (tx, ty, tz, ()), (cx, cy, ()), rate, ()) ps.length 0 BIG (by omega) (by unfold BIG; omega)
    rw [show ((0 : Nat) : Int) = 0 from rfl] at this
    rw [this, dg7.S2_eq, w64 (n := (i : Int) + 1) (by omega) (by omega), show ((i : Int) + 1) = ((i + 1 : Nat) : Int) by simp]
  rw [dg7.L0_eq, cd (by omega), idx_nat, hm, Option.bind_some, hv, Option.bind_some, bne_self_eq_false, cond_false, fin]
  by_cases h4 : (i : Int) ≥ 4
  case neg => rw [cnd h4]
  rw [cd h4]
  by_cases hk : k = 4
  case neg => rw [ab_eq hk, cond_false]
  obtain ⟨m, mz, m1, m5, m2, m3, m4⟩ := hst hk (by omega)
  rw [hk, beq_self_eq_true, cond_true, w64 (n := (i : Int) - 4) (by omega) (by omega), show ((i : Int) - 4) = ((i - 4 : Nat) : Int) by omega, idx_nat, m1, Option.bind_some]
  rw [m5, w64 (n := mz - tz) (by omega) (by omega), w64 (n := s + 1) (by omega) (by omega), cnd (show ¬ mz - tz > s + 1 by omega)]

/-- The turns. -/
theorem J2 (m : Nat) : ∀ (i fuel : Nat), 1 ≤ i → ((i + m : Nat) : Int) = 4 * N + 1 →
    dg7.L0 BIG (fuel + m) (boreL ax ay c top D N feed plunge) c (boreL ax ay c top D N feed plunge) ((boreL ax ay c top D N feed plunge).length : Int) (i : Int) (ax, ay, ()) (r, top, D, ()) (num, kind, rad, flute, len, s, feed, plunge, ())
      (quadX ax c (i - 1), quadY ay c (i - 1), -boreZ D (4 * N) ((i - 1 : Nat) : Int), ()) =
    dg7.L0 BIG fuel (boreL ax ay c top D N feed plunge) c (boreL ax ay c top D N feed plunge) ((boreL ax ay c top D N feed plunge).length : Int) (4 * N + 1) (ax, ay, ()) (r, top, D, ()) (num, kind, rad, flute, len, s, feed, plunge, ())
      (ax + c, ay, -D, ()) := by
  have hD := B.hD
  have hN := B.hN
  have hlen := boreL_len ax ay c top D N feed plunge B.hN
  induction m with
  | zero =>
    intro i fuel hi him
    rw [Nat.add_zero, show (i : Int) = 4 * N + 1 by omega, show ((i - 1 : Nat) : Int) = 4 * N by omega, boreZ_last hD hN]
    have h4 : (i - 1) % 4 = 0 := by omega
    rw [show quadX ax c (i - 1) = ax + c by simp [quadX, h4], show quadY ay c (i - 1) = ay by simp [quadY, h4]]
  | succ m ih =>
    intro i fuel hi him
    have hz1 := boreZ_bound hD hN (q := ((i - 1 : Nat) : Int)) (by omega) (by omega)
    have hz2 := boreZ_bound hD hN (q := (i : Int)) (by omega) (by omega)
    have hz3 := boreZ_mono hD hN (p := ((i - 1 : Nat) : Int)) (q := (i : Int)) (by omega)
    have T : TurnOk ax ay c D (-boreZ D (4 * N) ((i - 1 : Nat) : Int)) (-boreZ D (4 * N) (i : Int)) feed :=
      ⟨B.hax, B.hay, B.hc, B.hx1, B.hx2, B.hy1, B.hy2, ⟨by omega, by omega⟩, ⟨by omega, by omega⟩, ⟨by omega, by omega⟩, B.hfeed⟩
    have hmid := boreL_mid ax ay c top D N feed plunge hN i hi (by omega)
    have := J0 (r := r) (num := num) (kind := kind) (rad := rad) (flute := flute) (len := len) B (boreL ax ay c top D N feed plunge) i (by omega) (by omega) (quadX ax c (i - 1)) (quadY ay c (i - 1)) (-boreZ D (4 * N) ((i - 1 : Nat) : Int)) 4 (quadX ax c i) (quadY ay c i) (-boreZ D (4 * N) (i : Int)) ax ay feed
      hmid (arc_valid T (i - 1) i) (fun _ h4 => by
        by_cases h : i = 4
        · subst h
          refine ⟨_, 0, boreL_zero ax ay c top D N feed plunge, rfl, ?_⟩
          have h5 := boreZ_step hD hN (q := 4) (s := s) (by omega) B.hstep
          rw [show (4 : Int) - 4 = 0 by omega, boreZ_zero hD hN] at h5
          have e : boreZ D (4 * N) ((4 : Nat) : Int) = boreZ D (4 * N) 4 := rfl
          rw [e] at hz2 ⊢
          exact ⟨by omega, by omega, by omega⟩
        · refine ⟨_, -boreZ D (4 * N) ((i - 4 : Nat) : Int), boreL_mid ax ay c top D N feed plunge hN (i - 4) (by omega) (by omega), rfl, ?_⟩
          have h5 := boreZ_step hD hN (q := (i : Int)) (s := s) (by omega) B.hstep
          have h6 := boreZ_bound hD hN (q := (i : Int) - 4) (by omega) (by omega)
          have h7 := boreZ_mono hD hN (p := (i : Int) - 4) (q := (i : Int)) (by omega)
          show -30000 ≤ -boreZ D (4 * N) ((i - 4 : Nat) : Int) - -boreZ D (4 * N) (i : Int) ∧ -boreZ D (4 * N) ((i - 4 : Nat) : Int) - -boreZ D (4 * N) (i : Int) ≤ s + 1 ∧ -boreZ D (4 * N) ((i - 4 : Nat) : Int) - -boreZ D (4 * N) (i : Int) ≤ 30000
          rw [show ((i - 4 : Nat) : Int) = (i : Int) - 4 by omega]
          exact ⟨by omega, by omega, by omega⟩)
      (turn_positions T (i - 1) i) (fuel + m)
    rw [show fuel + (m + 1) = fuel + m + 1 by omega, this]
    have h8 := ih (i + 1) fuel (by omega) (by omega)
    rw [Nat.add_sub_cancel] at h8
    exact h8

theorem J3 (hr : c = r - rad) : dg7.L0 BIG BIG (boreL ax ay c top D N feed plunge) c (boreL ax ay c top D N feed plunge) ((boreL ax ay c top D N feed plunge).length : Int) 0 (ax, ay, ()) (r, top, D, ()) (num, kind, rad, flute, len, s, feed, plunge, ())
      (ax + c, ay, top, ()) = some true := by
  have hD := B.hD
  have hN := B.hN
  have hc := B.hc
  have htop := B.htop
  have hlen := boreL_len ax ay c top D N feed plunge B.hN
  have hdz : InOk (-D) := by unfold InOk; omega
  have h0z : InOk 0 := by unfold InOk; omega
  have htz : InOk top := by unfold InOk; omega
  obtain ⟨f, hf⟩ : ∃ f, BIG = f + 1 + 1 + 1 + 1 + (4 * N).toNat + 1 := ⟨BIG - (4 * N).toNat - 5, by unfold BIG; omega⟩
  have s0 := J0 (r := r) (num := num) (kind := kind) (rad := rad) (flute := flute) (len := len) B (boreL ax ay c top D N feed plunge) 0 (by omega) (by omega) (ax + c) ay top 2 (ax + c) ay 0 0 0 plunge (boreL_zero ax ay c top D N feed plunge)
    (dg21_line (.inr ⟨rfl, B.hplunge⟩) B.hx1 B.hay htz B.hx1 B.hay h0z) (fun h => by omega)
    ⟨_, fun p hp => by
      simp only [List.mem_cons, List.not_mem_nil, or_false] at hp
      subst hp
      refine ⟨?_, ?_, ?_, ?_⟩
      · show -c ≤ ax + c - ax ∧ ax + c - ax ≤ c; omega
      · show -c ≤ ay - ay ∧ ay - ay ≤ c; omega
      · show (ax + c - ax) * (ax + c - ax) + (ay - ay) * (ay - ay) ≤ c * c
        rw [show ax + c - ax = c by omega, show ay - ay = 0 by omega]; simp
      · show -D ≤ 0; omega, by simp, line_positions (.inr ⟨rfl, B.hplunge⟩) B.hx1 B.hay htz B.hx1 B.hay h0z⟩ (f + 1 + 1 + 1 + 1 + (4 * N).toNat)
  have s1 := J2 (r := r) (num := num) (kind := kind) (rad := rad) (flute := flute) (len := len) B (4 * N).toNat 1 (f + 1 + 1 + 1 + 1) (by omega) (by omega)
  rw [show quadX ax c (1 - 1) = ax + c by simp [quadX], show quadY ay c (1 - 1) = ay by simp [quadY], show ((1 - 1 : Nat) : Int) = 0 from rfl, boreZ_zero hD hN, show (-0 : Int) = 0 from rfl] at s1
  -- the full circle
  have T : TurnOk ax ay c D (-D) (-D) feed := ⟨B.hax, B.hay, B.hc, B.hx1, B.hx2, B.hy1, B.hy2, ⟨by omega, by omega⟩, ⟨by omega, by omega⟩, ⟨by omega, by omega⟩, B.hfeed⟩
  have q0 : quadX ax c 0 = ax + c ∧ quadY ay c 0 = ay := by simp [quadX, quadY]
  have hv := arc_valid T 0 0
  have hq := arc_quarters T 0 0
  have hp := turn_positions T 0 0
  rw [q0.1, q0.2] at hv hq hp
  have t0 := boreL_tail ax ay c top D N feed plunge hN 0 (by omega)
  have t1 := boreL_tail ax ay c top D N feed plunge hN 1 (by omega)
  have t2 := boreL_tail ax ay c top D N feed plunge hN 2 (by omega)
  simp only [List.getElem?_cons_zero, List.getElem?_cons_succ] at t0 t1 t2
  have s2 := J0 (r := r) (num := num) (kind := kind) (rad := rad) (flute := flute) (len := len) B (boreL ax ay c top D N feed plunge) ((4 * N).toNat + 1 + 0) (by omega) (by omega) (ax + c) ay (-D) 4 (ax + c) ay (-D) ax ay feed t0 hv (fun _ h4 => by
      have h6 := boreZ_bound hD hN (q := 4 * N - 3) (by omega) (by omega)
      have h7 := boreZ_step hD hN (q := 4 * N) (s := s) (by omega) B.hstep
      have h8 := boreZ_mono hD hN (p := 4 * N - 4) (q := 4 * N - 3) (by omega)
      rw [boreZ_last hD hN] at h7
      refine ⟨_, -boreZ D (4 * N) (((4 * N).toNat + 1 + 0 - 4 : Nat) : Int), boreL_mid ax ay c top D N feed plunge hN ((4 * N).toNat + 1 + 0 - 4) (by omega) (by omega), rfl, ?_⟩
      show -30000 ≤ -boreZ D (4 * N) (((4 * N).toNat + 1 + 0 - 4 : Nat) : Int) - -D ∧ -boreZ D (4 * N) (((4 * N).toNat + 1 + 0 - 4 : Nat) : Int) - -D ≤ s + 1 ∧ -boreZ D (4 * N) (((4 * N).toNat + 1 + 0 - 4 : Nat) : Int) - -D ≤ 30000
      rw [show (((4 * N).toNat + 1 + 0 - 4 : Nat) : Int) = 4 * N - 3 by omega]
      exact ⟨by omega, by omega, by omega⟩) hp (f + 1 + 1 + 1)
  have hfeed2 : ((2 : Int) = 1 ∧ feed = 0) ∨ ((2 : Int) = 2 ∧ feed > 0) := .inr ⟨rfl, B.hfeed⟩
  have s3 := J0 (r := r) (num := num) (kind := kind) (rad := rad) (flute := flute) (len := len) B (boreL ax ay c top D N feed plunge) ((4 * N).toNat + 1 + 1) (by omega) (by omega) (ax + c) ay (-D) 2 ax ay (-D) 0 0 feed t1
    (dg21_line hfeed2 B.hx1 B.hay hdz B.hax B.hay hdz) (fun h => by omega)
    ⟨_, fun p hp => by
      simp only [List.mem_cons, List.not_mem_nil, or_false] at hp
      subst hp
      refine ⟨?_, ?_, ?_, ?_⟩
      · show -c ≤ ax - ax ∧ ax - ax ≤ c; omega
      · show -c ≤ ay - ay ∧ ay - ay ≤ c; omega
      · show (ax - ax) * (ax - ax) + (ay - ay) * (ay - ay) ≤ c * c
        rw [show ax - ax = 0 by omega, show ay - ay = 0 by omega]
        have := Int.mul_nonneg (a := c) (b := c) (by omega) (by omega)
        simpa using this
      · show -D ≤ -D; omega, by simp, line_positions hfeed2 B.hx1 B.hay hdz B.hax B.hay hdz⟩ (f + 1 + 1)
  have s4 := J0 (r := r) (num := num) (kind := kind) (rad := rad) (flute := flute) (len := len) B (boreL ax ay c top D N feed plunge) ((4 * N).toNat + 1 + 2) (by omega) (by omega) ax ay (-D) 1 ax ay top 0 0 0 t2
    (dg21_line (.inl ⟨rfl, rfl⟩) B.hax B.hay hdz B.hax B.hay htz) (fun h => by omega)
    ⟨_, fun p hp => by
      simp only [List.mem_cons, List.not_mem_nil, or_false] at hp
      subst hp
      refine ⟨?_, ?_, ?_, ?_⟩
      · show -c ≤ ax - ax ∧ ax - ax ≤ c; omega
      · show -c ≤ ay - ay ∧ ay - ay ≤ c; omega
      · show (ax - ax) * (ax - ax) + (ay - ay) * (ay - ay) ≤ c * c
        rw [show ax - ax = 0 by omega, show ay - ay = 0 by omega]
        have := Int.mul_nonneg (a := c) (b := c) (by omega) (by omega)
        simpa using this
      · show -D ≤ top; omega, by simp, line_positions (.inl ⟨rfl, rfl⟩) B.hax B.hay hdz B.hax B.hay htz⟩ (f + 1)
  rw [show ((0 : Nat) : Int) = 0 from rfl, show ((0 + 1 : Nat) : Int) = ((1 : Nat) : Int) from rfl] at s0
  rw [show (((4 * N).toNat + 1 + 0 : Nat) : Int) = 4 * N + 1 by omega, show (((4 * N).toNat + 1 + 0 + 1 : Nat) : Int) = (((4 * N).toNat + 1 + 1 : Nat) : Int) by omega] at s2
  rw [show (((4 * N).toNat + 1 + 1 + 1 : Nat) : Int) = (((4 * N).toNat + 1 + 2 : Nat) : Int) by omega] at s3
  conv => lhs; rw [show @dg7.L0 BIG BIG = dg7.L0 BIG (f + 1 + 1 + 1 + 1 + (4 * N).toNat + 1) by rw [← hf]]
  rw [s0, s1, s2, s3, s4, dg7.L0_eq, cnd (by omega), dg7.S1_eq, cnd (by omega)]
  rw [hlen, w64 (n := (((4 * N).toNat + 4 : Nat) : Int) - 3) (by omega) (by omega), w64 (n := (((4 * N).toNat + 4 : Nat) : Int) - 4) (by omega) (by omega)]
  rw [show ((((4 * N).toNat + 4 : Nat) : Int) - 3) = (((4 * N).toNat + 1 + 0 : Nat) : Int) by omega, show ((((4 * N).toNat + 4 : Nat) : Int) - 4) = (((4 * N).toNat : Nat) : Int) by omega, idx_nat, idx_nat, t0,
    boreL_mid ax ay c top D N feed plunge hN (4 * N).toNat (by omega) (by omega)]
  have hbe : boreE ax ay c D (4 * N) feed (4 * N).toNat = ((4 : Int), (ax + c, ay, -D, ()), (ax, ay, ()), feed, ()) := by
    unfold boreE
    rw [show (((4 * N).toNat : Nat) : Int) = 4 * N by omega, boreZ_last hD hN]
    have h4 : (4 * N).toNat % 4 = 0 := by omega
    rw [show quadX ax c (4 * N).toNat = ax + c by simp [quadX, h4], show quadY ay c (4 * N).toNat = ay by simp [quadY, h4]]
  rw [hbe]
  simp only [Option.bind_some]
  rw [hq]
  simp only [Option.bind_some]
  rw [w64 (n := 0 - D) (by omega) (by omega), show 0 - D = -D by omega]
  simp only [beq_self_eq_true, cond_true]
  rfl
end

theorem dg7_ab (ax ay r top D num kind rad flute len step feed plunge : Int) (hr : -9223372036854775808 ≤ r ∧ r ≤ 9223372036854775807) :
    dg7.N BIG ((ax, ay, ()), (r, top, D, ()), (num, kind, rad, flute, len, step, feed, plunge, ()), ()) = some true := by
  rw [dg7.eq, awake_ok]
  simp only [Option.bind_some, Bool.not_true, cond_false]
  by_cases h1 : D > 20000
  · rw [cd h1]
  rw [cnd h1]
  by_cases h2 : step < 500
  · rw [cd h2]
  rw [cnd h2, dg12_eq hr, Option.bind_some]
  unfold boreF
  by_cases c1 : ¬ GoodT num kind rad flute len step feed plunge ∨ kind ≠ 1 ∨ top < 0 ∨ r < 1 ∨ D < 1
  · rw [if_pos c1]; rfl
  rw [if_neg c1]
  by_cases c2 : flute < D ∨ ¬ MillsT kind rad r
  · rw [if_pos c2]; rfl
  rw [if_neg c2]
  by_cases c3 : InOk ax ∧ InOk ay ∧ InOk top ∧ InOk D
  case neg => rw [if_pos c3]; rfl
  rw [if_neg (fun h => h c3)]
  by_cases c4 : InOk (ax + (r - rad)) ∧ InOk (ax - (r - rad)) ∧ InOk (ay + (r - rad)) ∧ InOk (ay - (r - rad))
  case neg => rw [if_pos c4]; rfl
  rw [if_neg (fun h => h c4)]
  have hg : GoodT num kind rad flute len step feed plunge := Classical.byContradiction fun h => c1 (.inl h)
  have hm : MillsT kind rad r := Classical.byContradiction fun h => c2 (.inr h)
  obtain ⟨hk, m1, m2⟩ := hm
  have g1 := hg.hrad; have g2 := hg.hstep; have g3 := hg.hfeed; have g4 := hg.hplunge
  unfold LenOk at g1 g2 g3 g4
  obtain ⟨i1, i2, i3, i4⟩ := id c3
  unfold InOk at i3
  have htop : ¬ top < 0 := fun h => c1 (.inr (.inr (.inl h)))
  have hr1 : ¬ r < 1 := fun h => c1 (.inr (.inr (.inr (.inl h))))
  have hD1 : ¬ D < 1 := fun h => c1 (.inr (.inr (.inr (.inr h))))
  rw [w64 (by omega) (by omega)] at m2
  have hN1 : 1 ≤ (D + step - 1) / step := (Int.le_ediv_iff_mul_le (by omega)).2 (by omega)
  have hN2 : (D + step - 1) / step ≤ 40 := by
    have : (D + step - 1) / step < 41 := Int.ediv_lt_of_lt_mul (by omega) (by omega)
    omega
  have hNs : D ≤ (D + step - 1) / step * step := by
    have := Int.lt_ediv_add_one_mul_self (D + step - 1) (b := step) (by omega)
    rw [Int.add_mul] at this
    omega
  rw [if_neg (by omega)]
  simp only [bne_self_eq_false, cond_false]
  unfold InOk at i1 i2
  obtain ⟨j1, j2, j3, j4⟩ := id c4
  unfold InOk at j1
  rw [w64 (n := r - rad) (by omega) (by omega), w64 (n := ax + (r - rad)) (by omega) (by omega)]
  exact J3 (N := (D + step - 1) / step) ⟨c3.1, c3.2.1, ⟨by omega, by omega⟩, c4.1, j2, j3, j4, ⟨by omega, by omega⟩, ⟨by omega, by omega⟩, ⟨hN1, hN2⟩, ⟨by omega, by omega⟩, hNs, by omega, by omega⟩ rfl

theorem dg7_true (x : DenA dg7.A) (h : WfA dg7.A x) : dg7 x = some true := by
  obtain ⟨⟨ax, ay, _⟩, ⟨r, top, D, _⟩, ⟨num, kind, rad, flute, len, step, feed, plunge, _⟩, _⟩ := x
  exact dg7_ab ax ay r top D num kind rad flute len step feed plunge (wf64 h.2.1.1)
end Go.Ev
