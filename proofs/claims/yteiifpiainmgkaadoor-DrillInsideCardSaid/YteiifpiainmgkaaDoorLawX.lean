/-
  An arc of the bore as chords: it is made, and its positions keep the bounds.
-/
import Derived.Test.YteiifpiainmgkaaDoorLawI
namespace Go.Ev
open Go Go.Proofs
set_option linter.unusedSimpArgs false
set_option linter.unusedSectionVars false
set_option linter.unusedVariables false

abbrev Ps := Ty.den dY31
/-- In the hole, and not below the depth. -/
def PGi (ax ay c D x y z : Int) : Prop := (-c ≤ x - ax ∧ x - ax ≤ c) ∧ (-c ≤ y - ay ∧ y - ay ≤ c) ∧ (x - ax) * (x - ax) + (y - ay) * (y - ay) ≤ c * c ∧ -D ≤ z
def PG (ax ay c D : Int) (p : Ps) : Prop := PGi ax ay c D p.1 p.2.1 p.2.2.1

section
variable {ax ay c D fx fy fz k tx ty tz feed : Int} (hax : InOk ax) (hay : InOk ay) (hc : 1 ≤ c ∧ c ≤ 10000000) (hD : 0 ≤ D ∧ D ≤ 20000) (hfz : -D ≤ fz ∧ fz ≤ 20000) (htz : -D ≤ tz ∧ tz ≤ fz) {n q : Int} (hn : 1 ≤ n ∧ n ≤ 1000) (hq : 1 ≤ q ∧ q ≤ 4)

include hax hay hc hD hfz htz hn hq in
theorem A1 (first : Int) (hfirst : 0 ≤ first ∧ first ≤ 3) (qi : Int) (hqi : 0 ≤ qi ∧ qi < q) (n0 : Nat) : ∀ (m fuel : Nat) (kk : Int) (acc : List Ps), 1 ≤ kk → kk + m = n + 1 → m < fuel → (∀ p ∈ acc, PG ax ay c D p) → (acc.length : Int) + m ≤ n * q →
    ∃ acc', (∀ p ∈ acc', PG ax ay c D p) ∧ acc'.length = acc.length + m ∧
      dg40.L1 BIG n0 fuel first c n (n * q) acc qi kk q qi (fx, fy, fz, ()) (4, (tx, ty, tz, ()), (ax, ay, ()), feed, ()) = dg40.L0 BIG n0 first c n (n * q) acc' q (qi + 1) (fx, fy, fz, ()) (4, (tx, ty, tz, ()), (ax, ay, ()), feed, ()) := by
  intro m
  induction m with
  | zero =>
    intro fuel kk acc hk hkm hf hacc hl
    obtain ⟨fuel, rfl⟩ : ∃ n', fuel = n' + 1 := ⟨fuel - 1, by omega⟩
    refine ⟨acc, hacc, by omega, ?_⟩
    rw [dg40.L1_eq, cnd (by omega), w64 (by omega) (by omega)]
  | succ m ih =>
    intro fuel kk acc hk hkm hf hacc hl
    obtain ⟨fuel, rfl⟩ : ∃ n', fuel = n' + 1 := ⟨fuel - 1, by omega⟩
    have hkn : kk ≤ n := by omega
    obtain ⟨hx0, hx1, hy0, hy1, hxy⟩ := chord (r := c) (n := n) (k := kk) hc.1 hk hkn
    have hkk : 1 ≤ kk * kk := by have := Int.mul_le_mul hk hk (by omega) (by omega); omega
    have hnn : kk * kk ≤ n * n := Int.mul_le_mul hkn hkn (by omega) (by omega)
    have hn2 : n * n ≤ 1000 * 1000 := Int.mul_le_mul hn.2 hn.2 (by omega) (by omega)
    have hA0 : 0 ≤ c * (n * n - kk * kk) := Int.mul_nonneg (by omega) (by omega)
    have hA1 : c * (n * n - kk * kk) ≤ 10000000 * 1000000 := Int.mul_le_mul hc.2 (by omega) (by omega) (by omega)
    have hB0 : 0 ≤ 2 * c * kk := Int.mul_nonneg (by omega) (by omega)
    have hB1 : 2 * c * kk ≤ 20000000 * 1000 := Int.mul_le_mul (by omega) (by omega) (by omega) (by omega)
    have hC0 : 0 ≤ 2 * c * kk * n := Int.mul_nonneg hB0 (by omega)
    have hC1 : 2 * c * kk * n ≤ 20000000000 * 1000 := Int.mul_le_mul (by omega) hn.2 (by omega) (by omega)
    have hnq : n * q ≤ 1000 * 4 := Int.mul_le_mul hn.2 hq.2 (by omega) (by omega)
    have e1 : IntKind.i64.wrap (IntKind.i64.wrap (n * n) + IntKind.i64.wrap (kk * kk)) = n * n + kk * kk := by
      rw [w64 (n := n * n) (by omega) (by omega), w64 (n := kk * kk) (by omega) (by omega), w64 (by omega) (by omega)]
    have e2 : IntKind.i64.wrap (c * IntKind.i64.wrap (IntKind.i64.wrap (n * n) - IntKind.i64.wrap (kk * kk))) = c * (n * n - kk * kk) := by
      rw [w64 (n := n * n) (by omega) (by omega), w64 (n := kk * kk) (by omega) (by omega), w64 (n := n * n - kk * kk) (by omega) (by omega), w64 (by omega) (by omega)]
    have e3 : IntKind.i64.wrap (IntKind.i64.wrap (IntKind.i64.wrap (2 * c) * kk) * n) = 2 * c * kk * n := by
      rw [w64 (n := 2 * c) (by omega) (by omega), w64 (n := 2 * c * kk) (by omega) (by omega), w64 (by omega) (by omega)]
    rw [dg40.L1_eq, cd hkn, e1, e2, e3, show (n * n + kk * kk == 0) = false by simp; omega]
    simp only [cond_false]
    rw [quo64 hA0 (by omega) (by omega), quo64 hC0 (by omega) (by omega), show ((4 : Int) == 3) = false from rfl, cond_false]
    generalize c * (n * n - kk * kk) / (n * n + kk * kk) = x at *
    generalize 2 * c * kk * n / (n * n + kk * kk) = y at *
    obtain ⟨x', y', t1, t2, t3, t4⟩ := dg42_eq c hc.2 x y (IntKind.i64.wrap (first + qi)) ⟨by omega, hx1⟩ ⟨by omega, hy1⟩
    rw [t1, Option.bind_some, dg40.S1_eq]
    -- the height
    have hi0 : (0 : Int) ≤ acc.length := by omega
    have hzz : -((fz - tz) * (n * q)) ≤ (tz - fz) * ((acc.length : Int) + 1) := by
      have := Int.mul_le_mul_of_nonneg_left (c := fz - tz) (a := (acc.length : Int) + 1) (b := n * q) (by omega) (by omega)
      have e : (tz - fz) * ((acc.length : Int) + 1) = -((fz - tz) * ((acc.length : Int) + 1)) := by grind
      omega
    have hz0 : (tz - fz) * ((acc.length : Int) + 1) ≤ 0 := Int.mul_nonpos_of_nonpos_of_nonneg (by omega) (by omega)
    have hnq1 : 1 ≤ n * q := by have := Int.mul_le_mul hn.1 hq.1 (by omega) (by omega); omega
    have hz1 : (fz - tz) * (n * q) ≤ 40000 * 4000 := Int.mul_le_mul (by omega) (by omega) (by omega) (by omega)
    obtain ⟨v, v1, v2, v3⟩ := dg43_eq (a := (tz - fz) * ((acc.length : Int) + 1)) (b := n * q) (L := fz - tz) ⟨hnq1, by omega⟩ ⟨by omega, by omega⟩ hzz hz0
    rw [w64 (n := tz - fz) (by omega) (by omega), w64 (n := (acc.length : Int) + 1) (by omega) (by omega), w64 (n := (tz - fz) * ((acc.length : Int) + 1)) (by omega) (by omega), v3, Option.bind_some]
    unfold InOk at hax hay
    rw [w64 (n := ax + x') (by omega) (by omega), w64 (n := ay + y') (by omega) (by omega), w64 (n := fz + v) (by omega) (by omega), w64 (n := kk + 1) (by omega) (by omega), cd (by simp [most]; omega)]
    obtain ⟨acc', a1, a2, a3⟩ := ih fuel (kk + 1) (acc ++ [(ax + x', ay + y', fz + v, ())]) (by omega) (by omega) (by omega) (fun p hp => by
      rw [List.mem_append] at hp
      rcases hp with hp | hp
      · exact hacc p hp
      · simp only [List.mem_cons, List.not_mem_nil, or_false] at hp
        subst hp
        refine ⟨?_, ?_, ?_, ?_⟩
        · show -c ≤ ax + x' - ax ∧ ax + x' - ax ≤ c
          omega
        · show -c ≤ ay + y' - ay ∧ ay + y' - ay ≤ c
          omega
        · show (ax + x' - ax) * (ax + x' - ax) + (ay + y' - ay) * (ay + y' - ay) ≤ c * c
          rw [show ax + x' - ax = x' by omega, show ay + y' - ay = y' by omega, t4]
          exact hxy
        · show -D ≤ fz + v
          omega) (by simp; omega)
    exact ⟨acc', a1, by rw [a2]; simp; omega, a3⟩

include hax hay hc hD hfz htz hn hq in
theorem A0 (first : Int) (hfirst : 0 ≤ first ∧ first ≤ 3) : ∀ (m fuel : Nat) (qi : Int) (acc : List Ps), 0 ≤ qi → qi + m = q → m < fuel → (∀ p ∈ acc, PG ax ay c D p) → (acc.length : Int) = n * qi →
    ∃ ps, (∀ p ∈ ps, PG ax ay c D p) ∧ (ps.length : Int) ≤ 20000 ∧
      dg40.L0 BIG fuel first c n (n * q) acc q qi (fx, fy, fz, ()) (4, (tx, ty, tz, ()), (ax, ay, ()), feed, ()) = some (ps, 0) := by
  have hnq : n * q ≤ 1000 * 4 := Int.mul_le_mul hn.2 hq.2 (by omega) (by omega)
  intro m
  induction m with
  | zero =>
    intro fuel qi acc h0 hqm hf hacc hl
    obtain ⟨fuel, rfl⟩ : ∃ n', fuel = n' + 1 := ⟨fuel - 1, by omega⟩
    obtain rfl : qi = q := by omega
    refine ⟨acc, hacc, by omega, ?_⟩
    rw [dg40.L0_eq, cnd (by omega), dg40.S0_eq]
  | succ m ih =>
    intro fuel qi acc h0 hqm hf hacc hl
    obtain ⟨fuel, rfl⟩ : ∃ n', fuel = n' + 1 := ⟨fuel - 1, by omega⟩
    have hle : n * (qi + 1) ≤ n * q := Int.mul_le_mul_of_nonneg_left (by omega) (by omega)
    have he : n * (qi + 1) = n * qi + n := by grind
    obtain ⟨acc', a1, a2, a3⟩ := A1 (fx := fx) (fy := fy) (tx := tx) (ty := ty) (feed := feed) hax hay hc hD hfz htz hn hq first hfirst qi ⟨h0, by omega⟩ fuel n.toNat BIG 1 acc (by omega) (by omega) (by unfold BIG; omega) hacc (by omega)
    obtain ⟨ps, p1, p2, p3⟩ := ih fuel (qi + 1) acc' (by omega) (by omega) (by omega) a1 (by rw [a2]; push_cast; omega)
    refine ⟨ps, p1, p2, ?_⟩
    rw [dg40.L0_eq, cd (by omega), a3]
    exact p3
end

/-! ## Points of the circle -/
theorem ab_eq {a b : Int} (h : a ≠ b) : (a == b) = false := by simpa using h

theorem pointQ {ax ay c z : Int} (hax : InOk ax) (hay : InOk ay) (hc : 1 ≤ c ∧ c ≤ 10000000) (i : Nat) : dg34 ((quadX ax c i, quadY ay c i, z, ()), (ax, ay, ()), ()) = some (((i % 4 : Nat) : Int), c) := by
  unfold InOk at hax hay
  have h35 : ∀ a b : Int, -40000000 ≤ a ∧ a ≤ 40000000 → -40000000 ≤ b ∧ b ≤ 40000000 → dg35 (a, b, ()) = some (if a < b then b - a else a - b) := fun a b h1 h2 => dg35_eq (by omega) (by omega)
  unfold dg34
  rw [dg34.eq]
  have hcase : i % 4 = 0 ∨ i % 4 = 1 ∨ i % 4 = 2 ∨ i % 4 = 3 := by omega
  rcases hcase with h | h | h | h
  · rw [show quadX ax c i = ax + c by simp [quadX, h], show quadY ay c i = ay by simp [quadY, h], h]
    simp only [beq_self_eq_true, cond_true]
    rw [cd (show ax + c > ax by omega), h35 _ _ (by omega) (by omega), Option.bind_some, if_neg (by omega), show ax + c - ax = c by omega]
    rfl
  · rw [show quadX ax c i = ax by simp [quadX, h], show quadY ay c i = ay + c by simp [quadY, h], h]
    rw [ab_eq (a := ay + c) (b := ay) (by omega)]
    simp only [cond_false, beq_self_eq_true, cond_true]
    rw [cd (show ay + c > ay by omega), h35 _ _ (by omega) (by omega), Option.bind_some, if_neg (by omega), show ay + c - ay = c by omega]
    rfl
  · rw [show quadX ax c i = ax - c by simp [quadX, h], show quadY ay c i = ay by simp [quadY, h], h]
    simp only [beq_self_eq_true, cond_true]
    rw [cnd (show ¬ ax - c > ax by omega), ab_eq (a := ax - c) (b := ax) (by omega)]
    simp only [cond_false]
    rw [cd (show ax - c < ax by omega), h35 _ _ (by omega) (by omega), Option.bind_some, if_pos (by omega), show ax - (ax - c) = c by omega]
    rfl
  · rw [show quadX ax c i = ax by simp [quadX, h], show quadY ay c i = ay - c by simp [quadY, h], h]
    rw [ab_eq (a := ay - c) (b := ay) (by omega)]
    simp only [cond_false, beq_self_eq_true, cond_true]
    rw [cnd (show ¬ ay - c > ay by omega), cd (show ay - c < ay by omega), h35 _ _ (by omega) (by omega), Option.bind_some, if_pos (by omega), show ay - (ay - c) = c by omega]
    rfl

/-- What a turn of the bore is: from one of the four points to another. -/
structure TurnOk (ax ay c D fz tz feed : Int) : Prop where
  hax : InOk ax
  hay : InOk ay
  hc : 1 ≤ c ∧ c ≤ 10000000
  hx1 : InOk (ax + c)
  hx2 : InOk (ax - c)
  hy1 : InOk (ay + c)
  hy2 : InOk (ay - c)
  hd : 0 ≤ D ∧ D ≤ 20000
  hfz : -D ≤ fz ∧ fz ≤ 20000
  htz : -D ≤ tz ∧ tz ≤ fz
  hfeed : 0 < feed

section
variable {ax ay c D fz tz feed : Int} (T : TurnOk ax ay c D fz tz feed) (i j : Nat)
include T

theorem quad_in (i : Nat) : InOk (quadX ax c i) ∧ InOk (quadY ay c i) := by
  unfold quadX quadY
  constructor
  · split
    · exact T.hx1
    · split
      · exact T.hx2
      · exact T.hax
  · split
    · exact T.hy1
    · split
      · exact T.hy2
      · exact T.hay

theorem arc_valid : dg21 ((quadX ax c i, quadY ay c i, fz, ()), (4, (quadX ax c j, quadY ay c j, tz, ()), (ax, ay, ()), feed, ()), ()) = some 0 := by
  have h33 : dg33 ((4, (quadX ax c j, quadY ay c j, tz, ()), (ax, ay, ()), feed, ()), ()) = some true := by
    unfold dg33
    rw [dg33.eq]
    rfl
  have hp1 := pointQ (z := fz) T.hax T.hay T.hc i
  have hp2 := pointQ (z := tz) T.hax T.hay T.hc j
  have h32 : dg32 ((quadX ax c i, quadY ay c i, fz, ()), (4, (quadX ax c j, quadY ay c j, tz, ()), (ax, ay, ()), feed, ()), ()) = some true := by
    unfold dg32
    rw [dg32.eq, show ((4 : Int) == 1) = false from rfl, cond_false, show ((4 : Int) == 2) = false from rfl, cond_false, hp1, hp2, h33]
    simp only [Option.bind_some, cond_true]
    rw [cd (show feed > 0 from T.hfeed), cd (show c > 0 by have := T.hc; omega), beq_self_eq_true]
  have hax := T.hax; have hay := T.hay; have hc := T.hc; have hfz := T.hfz; have htz := T.htz; have hd := T.hd
  unfold InOk at hax hay
  unfold dg21
  rw [dg21.eq, h32, Option.bind_some, Bool.not_true, cond_false, h33, Option.bind_some, cond_true, hp1, Option.bind_some]
  rw [cnd (show ¬ c > 10000000 by omega), dg35_eq (a := ax) (b := 0) (by omega) (by omega), Option.bind_some]
  rw [cnd (show ¬ (if ax < 0 then 0 - ax else ax - 0) > 10000000 by split <;> omega), dg35_eq (a := ay) (b := 0) (by omega) (by omega), Option.bind_some]
  rw [cnd (show ¬ (if ay < 0 then 0 - ay else ay - 0) > 10000000 by split <;> omega), cd (by simp [most])]
  obtain ⟨q1, q2⟩ := quad_in T i
  obtain ⟨q3, q4⟩ := quad_in T j
  refine dg21_S0 _ (by simp) fun x hx => ?_
  rw [w64 (n := c) (by omega) (by omega), w64 (n := ax + c) (by omega) (by omega), w64 (n := ax - c) (by omega) (by omega), w64 (n := ay + c) (by omega) (by omega), w64 (n := ay - c) (by omega) (by omega)] at hx
  simp only [List.mem_cons, List.mem_append, List.not_mem_nil, or_false] at hx
  rcases hx with (rfl | rfl | rfl | rfl | rfl | rfl) | rfl | rfl | rfl | rfl
  · exact q1
  · exact q2
  · unfold InOk; omega
  · exact q3
  · exact q4
  · unfold InOk; omega
  · exact T.hx1
  · exact T.hx2
  · exact T.hy1
  · exact T.hy2

/-- The number of quarters. -/
def quarters (i j : Nat) : Int := if ((j % 4 : Nat) : Int) - ((i % 4 : Nat) : Int) ≤ 0 then ((j % 4 : Nat) : Int) - ((i % 4 : Nat) : Int) + 4 else ((j % 4 : Nat) : Int) - ((i % 4 : Nat) : Int)

omit T in
theorem quarters_bound (i j : Nat) : 1 ≤ quarters i j ∧ quarters i j ≤ 4 := by
  unfold quarters
  split <;> omega

theorem arc_quarters : dg23 ((quadX ax c i, quadY ay c i, fz, ()), (4, (quadX ax c j, quadY ay c j, tz, ()), (ax, ay, ()), feed, ()), ()) = some (quarters i j, 0) := by
  have h33 : dg33 ((4, (quadX ax c j, quadY ay c j, tz, ()), (ax, ay, ()), feed, ()), ()) = some true := by
    unfold dg33
    rw [dg33.eq]
    rfl
  have hp1 := pointQ (z := fz) T.hax T.hay T.hc i
  have hp2 := pointQ (z := tz) T.hax T.hay T.hc j
  unfold dg23
  rw [dg23.eq, h33, Option.bind_some, Bool.not_true, cond_false, arc_valid T i j, Option.bind_some, bne_self_eq_false, cond_false, hp1, hp2]
  simp only [Option.bind_some]
  rw [show ((4 : Int) == 3) = false from rfl, cond_false, w64 (by omega) (by omega), dg23.S0_eq, dg23.S1_eq, dg23.S1_eq, w64 (by omega) (by omega)]
  unfold quarters
  by_cases h : ((j % 4 : Nat) : Int) - ((i % 4 : Nat) : Int) ≤ 0
  · rw [cd h, if_pos h]
  · rw [cnd h, if_neg h]

theorem arc_positions : ∃ ps, (∀ p ∈ ps, PG ax ay c D p) ∧ (ps.length : Int) ≤ 20000 ∧
    dg40 ((quadX ax c i, quadY ay c i, fz, ()), (4, (quadX ax c j, quadY ay c j, tz, ()), (ax, ay, ()), feed, ()), ()) = some (ps, 0) := by
  have hc := T.hc
  obtain ⟨n, n1, n2, n3⟩ := dg41_eq T.hc
  obtain ⟨q1, q2⟩ := quarters_bound i j
  have hnq0 : 0 ≤ n * quarters i j := Int.mul_nonneg (by omega) (by omega)
  have hnq : n * quarters i j ≤ 1000 * 4 := Int.mul_le_mul n2 q2 (by omega) (by omega)
  obtain ⟨ps, p1, p2, p3⟩ := A0 (fx := quadX ax c i) (fy := quadY ay c i) (tx := quadX ax c j) (ty := quadY ay c j) (feed := feed) T.hax T.hay T.hc T.hd T.hfz T.htz ⟨n1, n2⟩ ⟨q1, q2⟩ ((i % 4 : Nat) : Int) (by omega)
    (quarters i j).toNat BIG 0 [] (by omega) (by omega) (by unfold BIG; omega) (by simp) (by simp)
  refine ⟨ps, p1, p2, ?_⟩
  unfold dg40
  rw [dg40.eq, arc_quarters T i j, Option.bind_some, bne_self_eq_false, cond_false, pointQ (z := fz) T.hax T.hay T.hc i, Option.bind_some, w64 (n := c) (by omega) (by omega), n3, Option.bind_some, w64 (n := n * quarters i j) (by omega) (by omega), cnd (by omega)]
  exact p3

/-- The positions of one turn. -/
theorem turn_positions : ∃ ps, (∀ p ∈ ps, PG ax ay c D p) ∧ (ps.length : Int) ≤ 20000 ∧
    dg22 ((quadX ax c i, quadY ay c i, fz, ()), [(4, (quadX ax c j, quadY ay c j, tz, ()), (ax, ay, ()), feed, ())], ()) = some (ps, 0) := by
  obtain ⟨ps, p1, p2, p3⟩ := arc_positions T i j
  refine ⟨ps, p1, p2, ?_⟩
  have h33 : dg33 ((4, (quadX ax c j, quadY ay c j, tz, ()), (ax, ay, ()), feed, ()), ()) = some true := by
    unfold dg33
    rw [dg33.eq]
    rfl
  have h37 : ∀ a, dg37m (a, ps, [], ()) = some ps := fun a => by
    unfold dg37m
    rw [dg37m.eq, cd (by simp [most]; omega), List.nil_append]
  have hend : ∀ (f : Nat) m b, dg36m.L0 BIG (f + 1) (ps.length : Int) [m] 1 1 b ps = some (0, ps) := fun f m b => by
    rw [dg36m.L0_eq, cnd (by omega), dg36m.S1_eq, cnd (by omega)]
  have h36 : dg36m ((quadX ax c i, quadY ay c i, fz, ()), [(4, (quadX ax c j, quadY ay c j, tz, ()), (ax, ay, ()), feed, ())], [], ()) = some (0, ps) := by
    unfold dg36m
    rw [dg36m.eq]
    obtain ⟨b, hb⟩ : ∃ b, BIG = b + 2 := ⟨BIG - 2, by unfold BIG; omega⟩
    conv => lhs; rw [show @dg36m.L0 BIG BIG = dg36m.L0 BIG (b + 1 + 1) by rw [← hb]]
    rw [dg36m.L0_eq, cd (by simp), show idx [((4 : Int), ((quadX ax c j, quadY ay c j, tz, ()) : Ps), ((ax, ay, ()) : Ty.den dY29), feed, ())] (0 : Int) = some (4, (quadX ax c j, quadY ay c j, tz, ()), (ax, ay, ()), feed, ()) from rfl,
      Option.bind_some, arc_valid T i j, Option.bind_some, bne_self_eq_false, cond_false, h33, Option.bind_some, cond_true, p3, Option.bind_some, bne_self_eq_false, cond_false, dg36m.S0_eq,
      w64 (n := 0 + (ps.length : Int)) (by omega) (by omega), cd (by omega), h37, Option.bind_some, dg36m.S2_eq, show IntKind.i64.wrap (0 + 1) = 1 from by rw [w64 (by omega) (by omega)]; rfl, Int.zero_add]
    exact hend b _ _
  unfold dg22
  rw [dg22.eq, h36, Option.bind_some, bne_self_eq_false, cond_false]
end

/-- The positions of a straight move. -/
theorem line_positions {fx fy fz k tx ty tz cx cy rate : Int} (hk : (k = 1 ∧ rate = 0) ∨ (k = 2 ∧ rate > 0)) (h1 : InOk fx) (h2 : InOk fy) (h3 : InOk fz) (h4 : InOk tx) (h5 : InOk ty) (h6 : InOk tz) :
    dg22 ((fx, fy, fz, ()), [(k, (tx, ty, tz, ()), (cx, cy, ()), rate, ())], ()) = some ([(tx, ty, tz, ())], 0) := by
  have hv := dg21_line (cx := cx) (cy := cy) hk h1 h2 h3 h4 h5 h6
  have h33 : dg33 ((k, (tx, ty, tz, ()), (cx, cy, ()), rate, ()), ()) = some false := by
    unfold dg33
    rw [dg33.eq]
    rcases hk with ⟨rfl, rfl⟩ | ⟨rfl, hr⟩ <;> rfl
  have h37 : ∀ a, dg37m (a, [((tx, ty, tz, ()) : Ps)], [], ()) = some [(tx, ty, tz, ())] := fun a => by
    unfold dg37m
    rw [dg37m.eq, cd (by simp [most]), List.nil_append]
  have h36 : dg36m ((fx, fy, fz, ()), [(k, (tx, ty, tz, ()), (cx, cy, ()), rate, ())], [], ()) = some (0, [(tx, ty, tz, ())]) := by
    unfold dg36m
    rw [dg36m.eq]
    obtain ⟨b, hb⟩ : ∃ b, BIG = b + 2 := ⟨BIG - 2, by unfold BIG; omega⟩
    conv => lhs; rw [show @dg36m.L0 BIG BIG = dg36m.L0 BIG (b + 1 + 1) by rw [← hb]]
    rw [dg36m.L0_eq, cd (by simp), show idx [(k, ((tx, ty, tz, ()) : Ps), ((cx, cy, ()) : Ty.den dY29), rate, ())] (0 : Int) = some (k, (tx, ty, tz, ()), (cx, cy, ()), rate, ()) from rfl,
      Option.bind_some, hv, Option.bind_some, bne_self_eq_false, cond_false, h33, Option.bind_some, cond_false, dg36m.S0_1_eq]
    rw [show IntKind.i64.wrap (0 + ((List.length [((tx, ty, tz, ()) : Ps)] : Nat) : Int)) = 1 from by rw [w64 (by simp) (by simp)]; rfl, cd (by omega), h37, Option.bind_some, dg36m.S2_eq, show IntKind.i64.wrap (0 + 1) = 1 from by rw [w64 (by omega) (by omega)]; rfl, dg36m.L0_eq, cnd (by simp), dg36m.S1_eq, cnd (by omega)]
  unfold dg22
  rw [dg22.eq, h36, Option.bind_some, bne_self_eq_false, cond_false]
end Go.Ev
