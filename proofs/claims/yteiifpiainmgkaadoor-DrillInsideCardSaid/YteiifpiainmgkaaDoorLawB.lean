/-
  DrillBore: the plain law: both texts give the same moves.
-/
import Derived.Test.YteiifpiainmgkaaDoorLawT
namespace Go.Ev
open Go Go.Proofs
set_option linter.unusedSimpArgs false
set_option linter.unusedSectionVars false
set_option linter.unusedVariables false

abbrev Mv := Ty.den dY47
def boreZ (D n4 q : Int) : Int := (q * D + n4 - 1) / n4

def quadX (ax c : Int) (q : Nat) : Int := if q % 4 = 0 then ax + c else if q % 4 = 2 then ax - c else ax
def quadY (ay c : Int) (q : Nat) : Int := if q % 4 = 1 then ay + c else if q % 4 = 3 then ay - c else ay

def boreE (ax ay c D n4 feed : Int) (q : Nat) : Mv := ((4 : Int), (quadX ax c q, quadY ay c q, -boreZ D n4 q, ()), (ax, ay, ()), feed, ())

theorem boreV {q D n : Int} (hD : 1 ≤ D ∧ D ≤ 10000000) (hn : 1 ≤ n ∧ n ≤ 5000) (hq : 0 ≤ q ∧ q ≤ 20000) :
    IntKind.i64.wrap (Int.tdiv (IntKind.i64.wrap ((IntKind.i64.wrap ((IntKind.i64.wrap (q * D)) + (IntKind.i64.wrap ((4 : Int) * n)))) - (1 : Int))) (IntKind.i64.wrap ((4 : Int) * n))) = boreZ D (4 * n) q ∧
    0 ≤ boreZ D (4 * n) q ∧ boreZ D (4 * n) q ≤ 300000000000 := by
  have h1 : 0 ≤ q * D := Int.mul_nonneg hq.1 (by omega)
  have h2 : q * D ≤ 20000 * 10000000 := Int.mul_le_mul hq.2 hD.2 (by omega) (by omega)
  unfold boreZ
  have h3 : 0 ≤ (q * D + 4 * n - 1) / (4 * n) := Int.ediv_nonneg (by omega) (by omega)
  have h4 : (q * D + 4 * n - 1) / (4 * n) ≤ q * D + 4 * n - 1 := Int.ediv_le_self _ (by omega)
  rw [w64 (n := 4 * n) (by omega) (by omega), w64 (n := q * D) (by omega) (by omega), w64 (n := q * D + 4 * n) (by omega) (by omega), w64 (n := q * D + 4 * n - 1) (by omega) (by omega), quo64 (by omega) (by omega) (by omega)]
  exact ⟨rfl, h3, by omega⟩

theorem dg28_eq (g : Ty.den dY29) (z : Int) : dg28 (g, z, ()) = some (g.1, g.2.1, z, ()) := by
  unfold dg28
  exact dg28.eq _ g z

theorem mvlen (l : List Mv) (x : Mv) (h : l.length < 100000) : List.length l + List.length ([x] : List Mv) ≤ most := by
  simp only [List.length_cons, List.length_nil, most]; omega

section
variable {ax ay c D n top : Int} {num kind rad flute len step feed plunge : Int} (hD : 1 ≤ D ∧ D ≤ 10000000) (hn : 1 ≤ n ∧ n ≤ 5000)
  (h1 : InOk (ax + c)) (h2 : InOk (ax - c)) (h3 : InOk (ay + c)) (h4 : InOk (ay - c))

def quads (ax ay c : Int) : List (Ty.den dY29) := [(ax + c, ay, ()), (ax, ay + c, ()), (ax - c, ay, ()), (ax, ay - c, ())]

theorem quads_get (i : Nat) : (quads ax ay c)[i % 4]? = some (quadX ax c i, quadY ay c i, ()) := by
  have : i % 4 = 0 ∨ i % 4 = 1 ∨ i % 4 = 2 ∨ i % 4 = 3 := by omega
  rcases this with h | h | h | h <;> simp [quads, quadX, quadY, h]

include hD hn in
theorem L12 : ∀ (m i fuel : Nat) (acc : List Mv), 1 ≤ i → ((i + m : Nat) : Int) = 4 * n + 1 → m < fuel → acc.length + m < 50000 →
    dg12.L0 BIG fuel top D n (quads ax ay c) acc (i : Int) (ax, ay, ()) (num, kind, rad, flute, len, step, feed, plunge, ()) =
    dg12.S0 BIG top D (quads ax ay c) (acc ++ (List.range' i m).map (boreE ax ay c D (4 * n) feed)) (ax, ay, ()) (num, kind, rad, flute, len, step, feed, plunge, ()) := by
  intro m
  induction m with
  | zero =>
    intro i fuel acc hi him hf hl
    obtain ⟨fuel, rfl⟩ : ∃ n', fuel = n' + 1 := ⟨fuel - 1, by omega⟩
    rw [dg12.L0_eq, w64 (by omega) (by omega), cnd (by omega), List.range'_zero, List.map_nil, List.append_nil]
  | succ m ih =>
    intro i fuel acc hi him hf hl
    obtain ⟨fuel, rfl⟩ : ∃ n', fuel = n' + 1 := ⟨fuel - 1, by omega⟩
    obtain ⟨e1, e2, e3⟩ := boreV (q := (i : Int)) hD hn (by omega)
    rw [dg12.L0_eq, e1, w64 (n := 4 * n) (by omega) (by omega), cd (by omega), show (4 * n == 0) = false by simp; omega]
    simp only [cond_false]
    rw [show Int.tmod (i : Int) 4 = ((i % 4 : Nat) : Int) by rw [tmod_nonneg (by omega)]; omega, idx_nat, quads_get]
    simp only [Option.bind_some]
    rw [w64 (n := 0 - boreZ D (4 * n) i) (by omega) (by omega)]
    rw [dg28_eq]
    simp only [Option.bind_some]
    rw [cd (mvlen _ _ (by omega)), w64 (n := (i : Int) + 1) (by omega) (by omega), show ((i : Int) + 1) = ((i + 1 : Nat) : Int) by simp]
    have := ih (i + 1) fuel (acc ++ [boreE ax ay c D (4 * n) feed i]) (by omega) (by omega) (by omega) (by simp; omega)
    rw [List.range'_succ, List.map_cons, show (0 - boreZ D (4 * n) (i : Int)) = -boreZ D (4 * n) i by omega]
    rw [List.append_assoc, List.singleton_append] at this
    exact this

theorem quadCase (i : Nat) : Int.tmod (i : Int) 4 = ((i % 4 : Nat) : Int) := by rw [tmod_nonneg (by omega)]; omega

include hD hn h1 h2 h3 h4 in
theorem L13 {st : Ty.den dY31} : ∀ (m i fuel : Nat) (acc : List Mv), 1 ≤ i → ((i + m : Nat) : Int) = 4 * n + 1 → m < fuel → acc.length + m < 50000 →
    dg13.L0 BIG fuel top D c n acc (i : Int) (ax, ay, ()) (num, kind, rad, flute, len, step, feed, plunge, ()) st =
    dg13.S1 BIG top D (acc ++ (List.range' i m).map (boreE ax ay c D (4 * n) feed)) (ax, ay, ()) (num, kind, rad, flute, len, step, feed, plunge, ()) st := by
  intro m
  induction m with
  | zero =>
    intro i fuel acc hi him hf hl
    obtain ⟨fuel, rfl⟩ : ∃ n', fuel = n' + 1 := ⟨fuel - 1, by omega⟩
    rw [dg13.L0_eq, w64 (by omega) (by omega), cnd (by omega), List.range'_zero, List.map_nil, List.append_nil]
  | succ m ih =>
    intro i fuel acc hi him hf hl
    obtain ⟨fuel, rfl⟩ : ∃ n', fuel = n' + 1 := ⟨fuel - 1, by omega⟩
    obtain ⟨e1, e2, e3⟩ := boreV (q := (i : Int)) hD hn (by omega)
    unfold InOk at h1 h2 h3 h4
    rw [dg13.L0_eq, e1, w64 (n := 4 * n) (by omega) (by omega), cd (by omega), show (4 * n == 0) = false by simp; omega]
    simp only [cond_false]
    rw [quadCase, w64 (n := 0 - boreZ D (4 * n) i) (by omega) (by omega), w64 (n := ax + c) (by omega) (by omega), w64 (n := ax - c) (by omega) (by omega), w64 (n := ay + c) (by omega) (by omega), w64 (n := ay - c) (by omega) (by omega),
      show (0 - boreZ D (4 * n) (i : Int)) = -boreZ D (4 * n) i by omega]
    have fin : dg13.S0 BIG fuel top D c n acc (i : Int) (ax, ay, ()) (num, kind, rad, flute, len, step, feed, plunge, ()) st (quadX ax c i, quadY ay c i, -boreZ D (4 * n) i, ()) =
        dg13.S1 BIG top D (acc ++ (List.range' i (m + 1)).map (boreE ax ay c D (4 * n) feed)) (ax, ay, ()) (num, kind, rad, flute, len, step, feed, plunge, ()) st := by
      rw [dg13.S0_eq, cd (mvlen _ _ (by omega)), w64 (n := (i : Int) + 1) (by omega) (by omega), show ((i : Int) + 1) = ((i + 1 : Nat) : Int) by simp]
      have := ih (i + 1) fuel (acc ++ [boreE ax ay c D (4 * n) feed i]) (by omega) (by omega) (by omega) (by simp; omega)
      rw [List.range'_succ, List.map_cons]
      rw [List.append_assoc, List.singleton_append] at this
      exact this
    have hc : i % 4 = 0 ∨ i % 4 = 1 ∨ i % 4 = 2 ∨ i % 4 = 3 := by omega
    rcases hc with h | h | h | h
    · rw [show quadX ax c i = ax + c by simp [quadX, h], show quadY ay c i = ay by simp [quadY, h]] at fin
      rw [h, show ((((0 : Nat) : Int)) == (0 : Int)) = true from rfl, cond_true]
      exact fin
    · rw [show quadX ax c i = ax by simp [quadX, h], show quadY ay c i = ay + c by simp [quadY, h]] at fin
      rw [h, show ((((1 : Nat) : Int)) == (0 : Int)) = false from rfl, cond_false, show ((((1 : Nat) : Int)) == (1 : Int)) = true from rfl, cond_true]
      exact fin
    · rw [show quadX ax c i = ax - c by simp [quadX, h], show quadY ay c i = ay by simp [quadY, h]] at fin
      rw [h, show ((((2 : Nat) : Int)) == (0 : Int)) = false from rfl, cond_false, show ((((2 : Nat) : Int)) == (1 : Int)) = false from rfl, cond_false, show ((((2 : Nat) : Int)) == (2 : Int)) = true from rfl, cond_true]
      exact fin
    · rw [show quadX ax c i = ax by simp [quadX, h], show quadY ay c i = ay - c by simp [quadY, h]] at fin
      rw [h, show ((((3 : Nat) : Int)) == (0 : Int)) = false from rfl, cond_false, show ((((3 : Nat) : Int)) == (1 : Int)) = false from rfl, cond_false, show ((((3 : Nat) : Int)) == (2 : Int)) = false from rfl, cond_false]
      exact fin
end

/-- The moves of a bore. -/
def boreL (ax ay c top D n feed plunge : Int) : List Mv :=
  [((2 : Int), (ax + c, ay, (0 : Int), ()), ((0 : Int), (0 : Int), ()), plunge, ())] ++ (List.range' 1 (4 * n).toNat).map (boreE ax ay c D (4 * n) feed) ++
  [((4 : Int), (ax + c, ay, -D, ()), (ax, ay, ()), feed, ()), ((2 : Int), (ax, ay, -D, ()), ((0 : Int), (0 : Int), ()), feed, ()), ((1 : Int), (ax, ay, top, ()), ((0 : Int), (0 : Int), ()), (0 : Int), ())]

/-- What both texts tell. -/
def boreF (ax ay r top D num kind rad flute len step feed plunge : Int) : List Mv × Int :=
  if ¬ GoodT num kind rad flute len step feed plunge ∨ kind ≠ 1 ∨ top < 0 ∨ r < 1 ∨ D < 1 then ([], 1)
  else if flute < D ∨ ¬ MillsT kind rad r then ([], 16)
  else if ¬ (InOk ax ∧ InOk ay ∧ InOk top ∧ InOk D) then ([], 11)
  else if ¬ (InOk (ax + (r - rad)) ∧ InOk (ax - (r - rad)) ∧ InOk (ay + (r - rad)) ∧ InOk (ay - (r - rad))) then ([], 11)
  else if 4 * ((D + step - 1) / step) + 4 > 20000 then ([], 3)
  else (boreL ax ay (r - rad) top D ((D + step - 1) / step) feed plunge, 0)

section
variable {ax ay r top D num kind rad flute len step feed plunge : Int} (hr : -9223372036854775808 ≤ r ∧ r ≤ 9223372036854775807)

theorem inOks (b1 b2 : Bool) : (!b1) = false → b1 = true := by cases b1 <;> simp

/-- Four tests one after the other, each with the same answer. -/
theorem four12 {α : Type} {p q r s : Prop} [Decidable p] [Decidable q] [Decidable r] [Decidable s] (x y : α) :
    (bif !decide p then x else bif !decide q then x else bif !decide r then x else bif !decide s then x else y) = if ¬ (p ∧ q ∧ r ∧ s) then x else y := by
  by_cases hp : p <;> by_cases hq : q <;> by_cases hr : r <;> by_cases hs : s <;> simp [hp, hq, hr, hs]

include hr in
theorem dg12_eq : dg12 ((ax, ay, ()), r, top, D, (num, kind, rad, flute, len, step, feed, plunge, ()), ()) = some (boreF ax ay r top D num kind rad flute len step feed plunge) := by
  unfold dg12 boreF
  rw [dg12.eq, dg25_eq]
  simp only [Option.bind_some]
  by_cases hg : GoodT num kind rad flute len step feed plunge
  case neg => rw [if_neg hg, if_pos (.inl hg)]; rfl
  rw [if_pos hg, bne_self_eq_false, cond_false]
  by_cases hk : kind = 1
  case neg => rw [show (kind != 1) = true by simpa using hk, if_pos (.inr (.inl hk)), cond_true]
  rw [show (kind != 1) = false by simpa using hk, cond_false]
  by_cases ht : top < 0
  · rw [cd ht, if_pos (.inr (.inr (.inl ht)))]
  rw [cnd ht]
  by_cases hr1 : r < 1
  · rw [cd hr1, if_pos (.inr (.inr (.inr (.inl hr1))))]
  rw [cnd hr1]
  by_cases hd1 : D < 1
  · rw [cd hd1, if_pos (.inr (.inr (.inr (.inr hd1))))]
  rw [cnd hd1, if_neg (fun h => by rcases h with h | h | h | h | h <;> first | exact h hg | exact h hk | omega)]
  by_cases hf : flute < D
  · rw [cd hf, if_pos (.inl hf)]
  rw [cnd hf, dg26_eq]
  simp only [Option.bind_some]
  by_cases hm : MillsT kind rad r
  case neg => rw [decide_eq_false hm, if_pos (.inr hm)]; rfl
  have hgr := hg.hrad
  have hgs := hg.hstep
  unfold LenOk at hgr hgs
  obtain ⟨_, hm1, hm2⟩ := id hm
  rw [w64 (by omega) (by omega)] at hm2
  rw [decide_eq_true hm, if_neg (fun h => h.elim (fun h => hf h) (fun h => h hm)), dg27_eq, dg27_eq, dg27_eq, dg27_eq]
  simp only [Option.bind_some, Bool.not_true, cond_false]
  rw [w64 (n := r - rad) (by omega) (by omega), dg27_eq, dg27_eq, dg27_eq, dg27_eq]
  simp only [Option.bind_some]
  rw [four12, four12]
  by_cases hi : InOk ax ∧ InOk ay ∧ InOk top ∧ InOk D
  case neg => rw [if_pos hi, if_pos hi]
  obtain ⟨i1, i2, i3, i4⟩ := id hi
  unfold InOk at i1 i2 i3 i4
  rw [if_neg (c := ¬(InOk ax ∧ InOk ay ∧ InOk top ∧ InOk D)) (fun h => h hi), if_neg (c := ¬(InOk ax ∧ InOk ay ∧ InOk top ∧ InOk D)) (fun h => h hi), w64 (n := ax + (r - rad)) (by omega) (by omega), w64 (n := ax - (r - rad)) (by omega) (by omega), w64 (n := ay + (r - rad)) (by omega) (by omega), w64 (n := ay - (r - rad)) (by omega) (by omega)]
  by_cases hj : InOk (ax + (r - rad)) ∧ InOk (ax - (r - rad)) ∧ InOk (ay + (r - rad)) ∧ InOk (ay - (r - rad))
  case neg => rw [if_pos hj, if_pos hj]
  rw [if_neg (c := ¬(InOk (ax + (r - rad)) ∧ InOk (ax - (r - rad)) ∧ InOk (ay + (r - rad)) ∧ InOk (ay - (r - rad)))) (fun h => h hj), if_neg (c := ¬(InOk (ax + (r - rad)) ∧ InOk (ax - (r - rad)) ∧ InOk (ay + (r - rad)) ∧ InOk (ay - (r - rad)))) (fun h => h hj), show (step == 0) = false by simp; omega, cond_false]
  have hq0 : 0 ≤ (D + step - 1) / step := Int.ediv_nonneg (by omega) (by omega)
  have hq1 : (D + step - 1) / step ≤ D + step - 1 := Int.ediv_le_self _ (by omega)
  rw [w64 (n := D + step) (by omega) (by omega), w64 (n := D + step - 1) (by omega) (by omega), quo64 (by omega) (by omega) (by omega), w64 (n := 4 * ((D + step - 1) / step)) (by omega) (by omega), w64 (n := 4 * ((D + step - 1) / step) + 4) (by omega) (by omega)]
  by_cases hn : 4 * ((D + step - 1) / step) + 4 > 20000
  · rw [cd hn, if_pos hn]
  rw [cnd hn, if_neg hn]
  have hq2 : 1 ≤ (D + step - 1) / step := (Int.le_ediv_iff_mul_le (by omega)).2 (by omega)
  generalize hN : (D + step - 1) / step = N at *
  have e0 : ∀ a b c d : Ty.den dY29, idx [a, b, c, d] (0 : Int) = some a := fun a b c d => rfl
  rw [e0]
  simp only [Option.bind_some]
  rw [dg28_eq]
  simp only [Option.bind_some]
  have h := L12 (ax := ax) (ay := ay) (c := r - rad) (D := D) (n := N) (top := top) (num := num) (kind := kind) (rad := rad) (flute := flute) (len := len) (step := step) (feed := feed) (plunge := plunge)
    (by omega) (by omega) (4 * N).toNat 1 BIG [((2 : Int), (ax + (r - rad), ay, (0 : Int), ()), ((0 : Int), (0 : Int), ()), plunge, ())] (by omega) (by omega) (by unfold BIG; omega) (by simp; omega)
  unfold quads at h
  rw [show ((1 : Nat) : Int) = 1 from rfl] at h
  rw [h, dg12.S0_eq, e0]
  simp only [Option.bind_some]
  rw [dg28_eq, dg28_eq, dg28_eq]
  simp only [Option.bind_some]
  rw [cd (by simp [most]; omega), w64 (n := 0 - D) (by omega) (by omega), show 0 - D = -D by omega]
  rfl

theorem bool_not_iff {p : Prop} [Decidable p] : (!decide p) = decide (¬ p) := by simp

theorem four13 {α : Type} {p q r s : Prop} [Decidable p] [Decidable q] [Decidable r] [Decidable s] (x y : α) :
    (bif !decide p then x else bif !decide q then x else bif !decide r then x else bif !decide s then x else y) = if ¬ (p ∧ q ∧ r ∧ s) then x else y := four12 x y

include hr in
theorem dg13_eq : dg13 ((ax, ay, ()), r, top, D, (num, kind, rad, flute, len, step, feed, plunge, ()), ()) = some (boreF ax ay r top D num kind rad flute len step feed plunge) := by
  unfold dg13 boreF
  rw [dg13.eq, dg18_eq]
  simp only [Option.bind_some]
  by_cases hg : GoodT num kind rad flute len step feed plunge
  case neg => rw [decide_eq_false hg, if_pos (.inl hg)]; rfl
  rw [decide_eq_true hg, Bool.not_true, cond_false]
  by_cases hk : kind = 1
  case neg => rw [show (kind != 1) = true by simpa using hk, if_pos (.inr (.inl hk)), cond_true]
  rw [show (kind != 1) = false by simpa using hk, cond_false]
  by_cases ht : top < 0
  · rw [cd ht, if_pos (.inr (.inr (.inl ht)))]
  rw [cnd ht]
  by_cases hr1 : r < 1
  · rw [cd (by omega), if_pos (.inr (.inr (.inr (.inl hr1))))]
  rw [cnd (by omega)]
  by_cases hd1 : D < 1
  · rw [cd (by omega), if_pos (.inr (.inr (.inr (.inr hd1))))]
  rw [cnd (by omega), if_neg (fun h => by rcases h with h | h | h | h | h <;> first | exact h hg | exact h hk | omega)]
  by_cases hf : flute < D
  · rw [cd hf, if_pos (.inl hf)]
  rw [cnd hf, dg29_eq]
  simp only [Option.bind_some]
  by_cases hm : MillsT kind rad r
  case neg => rw [decide_eq_false hm, if_pos (.inr hm)]; rfl
  have hgr := hg.hrad
  have hgs := hg.hstep
  unfold LenOk at hgr hgs
  obtain ⟨_, hm1, hm2⟩ := id hm
  rw [w64 (by omega) (by omega)] at hm2
  rw [decide_eq_true hm, if_neg (fun h => h.elim (fun h => hf h) (fun h => h hm)), dg30_eq, dg30_eq, dg30_eq, dg30_eq]
  simp only [Option.bind_some, Bool.not_true, cond_false]
  rw [w64 (n := r - rad) (by omega) (by omega), dg30_eq, dg30_eq, dg30_eq, dg30_eq]
  simp only [Option.bind_some]
  rw [four12, four12]
  by_cases hi : InOk ax ∧ InOk ay ∧ InOk top ∧ InOk D
  case neg => rw [if_pos hi, if_pos hi]
  obtain ⟨i1, i2, i3, i4⟩ := id hi
  unfold InOk at i1 i2 i3 i4
  rw [if_neg (c := ¬(InOk ax ∧ InOk ay ∧ InOk top ∧ InOk D)) (fun h => h hi), if_neg (c := ¬(InOk ax ∧ InOk ay ∧ InOk top ∧ InOk D)) (fun h => h hi), w64 (n := ax + (r - rad)) (by omega) (by omega), w64 (n := ax - (r - rad)) (by omega) (by omega), w64 (n := ay + (r - rad)) (by omega) (by omega), w64 (n := ay - (r - rad)) (by omega) (by omega)]
  by_cases hj : InOk (ax + (r - rad)) ∧ InOk (ax - (r - rad)) ∧ InOk (ay + (r - rad)) ∧ InOk (ay - (r - rad))
  case neg => rw [if_pos hj, if_pos hj]
  rw [if_neg (c := ¬(InOk (ax + (r - rad)) ∧ InOk (ax - (r - rad)) ∧ InOk (ay + (r - rad)) ∧ InOk (ay - (r - rad)))) (fun h => h hj), if_neg (c := ¬(InOk (ax + (r - rad)) ∧ InOk (ax - (r - rad)) ∧ InOk (ay + (r - rad)) ∧ InOk (ay - (r - rad)))) (fun h => h hj), show (step == 0) = false by simp; omega, cond_false]
  have hq0 : 0 ≤ (D + step - 1) / step := Int.ediv_nonneg (by omega) (by omega)
  have hq1 : (D + step - 1) / step ≤ D + step - 1 := Int.ediv_le_self _ (by omega)
  rw [w64 (n := D + step) (by omega) (by omega), w64 (n := D + step - 1) (by omega) (by omega), quo64 (by omega) (by omega) (by omega), w64 (n := 4 * ((D + step - 1) / step)) (by omega) (by omega), w64 (n := 4 * ((D + step - 1) / step) + 4) (by omega) (by omega)]
  by_cases hn : 4 * ((D + step - 1) / step) + 4 > 20000
  · rw [cd hn, if_pos hn]
  rw [cnd hn, if_neg hn]
  have hq2 : 1 ≤ (D + step - 1) / step := (Int.le_ediv_iff_mul_le (by omega)).2 (by omega)
  generalize hN : (D + step - 1) / step = N at *
  have h := L13 (ax := ax) (ay := ay) (c := r - rad) (D := D) (n := N) (top := top) (num := num) (kind := kind) (rad := rad) (flute := flute) (len := len) (step := step) (feed := feed) (plunge := plunge)
    (by omega) (by omega) hj.1 hj.2.1 hj.2.2.1 hj.2.2.2 (st := (ax + (r - rad), ay, (0 : Int), ())) (4 * N).toNat 1 BIG [((2 : Int), (ax + (r - rad), ay, (0 : Int), ()), ((0 : Int), (0 : Int), ()), plunge, ())] (by omega) (by omega) (by unfold BIG; omega) (by simp; omega)
  rw [show ((1 : Nat) : Int) = 1 from rfl] at h
  rw [h, dg13.S1_eq]
  simp only [Option.bind_some]
  rw [w64 (n := 0 - D) (by omega) (by omega), show 0 - D = -D by omega, cd (by simp [most]; omega), cd (by simp [most]; omega), cd (by simp [most]; omega)]
  unfold boreL
  simp only [List.append_assoc, List.cons_append, List.nil_append]
end

/-! ## The law -/
theorem L14 (xs : List Mv) (hx : xs.length < 1000000000) : ∀ (m i n : Nat), i + m = xs.length → m < n → dg14.L0 BIG n xs xs (i : Int) = some true := by
  intro m
  induction m with
  | zero =>
    intro i n him hn
    obtain ⟨n, rfl⟩ : ∃ n', n = n' + 1 := ⟨n - 1, by omega⟩
    rw [dg14.L0_eq, cnd (by omega)]
  | succ m ih =>
    intro i n him hn
    obtain ⟨n, rfl⟩ : ∃ n', n = n' + 1 := ⟨n - 1, by omega⟩
    rw [dg14.L0_eq, cd (by omega), idx_nat, List.getElem?_eq_getElem (by omega)]
    simp only [Option.bind_some]
    rw [show eqD dY47 xs[i] xs[i] = true by simp [eqD], Bool.not_true, cond_false]
    rw [w64 (by omega) (by omega), show ((i : Int) + 1) = ((i + 1 : Nat) : Int) by simp]
    exact ih (i + 1) n (by omega) (by omega)

theorem dg14_same (xs : List Mv) (hx : xs.length < 1000000000) : dg14 (xs, xs, ()) = some true := by
  unfold dg14
  rw [dg14.eq, bne_self_eq_false, cond_false]
  exact L14 xs hx _ 0 BIG (by rw [Nat.zero_add]) (by unfold BIG; omega)

theorem boreF_len (ax ay r top D num kind rad flute len step feed plunge : Int) : (boreF ax ay r top D num kind rad flute len step feed plunge).1.length ≤ 20000 := by
  unfold boreF
  repeat' split
  all_goals simp [boreL]
  omega

theorem dg4_ab (ax ay r top D num kind rad flute len step feed plunge : Int) (hr : -9223372036854775808 ≤ r ∧ r ≤ 9223372036854775807) :
    dg4.N BIG ((ax, ay, ()), (r, top, D, ()), (num, kind, rad, flute, len, step, feed, plunge, ()), ()) = some true := by
  have fin : dg4.S0 BIG (ax, ay, ()) (r, top, D, ()) (num, kind, rad, flute, len, step, feed, plunge, ()) = some true := by
    rw [dg4.S0_eq, dg12_eq hr, dg13_eq hr]
    simp only [Option.bind_some, beq_self_eq_true, cond_true]
    rw [dg14_same _ (by have := boreF_len ax ay r top D num kind rad flute len step feed plunge; omega)]
    rfl
  rw [dg4.eq, awake_ok, fin]
  simp only [Option.bind_some, Bool.not_true, cond_false]
  cases decide (D > 200000) <;> cases decide (step < 1000) <;> rfl

theorem dg4_true (x : DenA dg4.A) (h : WfA dg4.A x) : dg4 x = some true := by
  obtain ⟨⟨ax, ay, _⟩, ⟨r, top, D, _⟩, ⟨num, kind, rad, flute, len, step, feed, plunge, _⟩, _⟩ := x
  exact dg4_ab ax ay r top D num kind rad flute len step feed plunge (wf64 h.2.1.1)
end Go.Ev
