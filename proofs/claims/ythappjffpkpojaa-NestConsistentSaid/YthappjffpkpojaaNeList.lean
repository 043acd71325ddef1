/-
  What slices.Sort (of few numbers) and slices.Compact compute, as functions on lists that go down the list.
-/
import Derived.Test.YthappjffpkpojaaNePdq
import Derived.Lib.SlicesCompact
import Derived.Sort.LotA
namespace Go.Ev
open Go Go.Proofs Go.Sort
set_option linter.unusedVariables false
set_option linter.unusedSimpArgs false

def ins (x : Int) : List Int → List Int
  | [] => [x]
  | y :: r => bif decide (x ≤ y) then x :: y :: r else y :: ins x r

def isort : List Int → List Int
  | [] => []
  | x :: r => ins x (isort r)

def uniqF (p : Int) : List Int → List Int
  | [] => []
  | x :: r => bif decide (x = p) then uniqF x r else x :: uniqF x r

def uniq : List Int → List Int
  | [] => []
  | x :: r => x :: uniqF x r

theorem ins_perm (x : Int) : ∀ l, (ins x l).Perm (x :: l)
  | [] => .refl _
  | y :: r => by
    unfold ins
    cases decide (x ≤ y) with
    | true => exact .refl _
    | false => exact ((ins_perm x r).cons y).trans (.swap x y r)

theorem isort_perm : ∀ l, (isort l).Perm l
  | [] => .refl _
  | x :: r => (ins_perm x (isort r)).trans ((isort_perm r).cons x)

theorem ins_sorted (x : Int) : ∀ l : List Int, l.Pairwise (· ≤ ·) → (ins x l).Pairwise (· ≤ ·)
  | [], _ => by simp [ins]
  | y :: r, h => by
    obtain ⟨h1, h2⟩ := List.pairwise_cons.1 h
    unfold ins
    by_cases hxy : x ≤ y
    · simp only [hxy, decide_true, cond_true]
      refine List.pairwise_cons.2 ⟨fun z hz => ?_, h⟩
      rcases List.mem_cons.1 hz with rfl | hz
      · exact hxy
      · have := h1 z hz; omega
    · simp only [hxy, decide_false, cond_false]
      refine List.pairwise_cons.2 ⟨fun z hz => ?_, ins_sorted x r h2⟩
      rcases List.mem_cons.1 ((ins_perm x r).mem_iff.1 hz) with rfl | hz
      · omega
      · exact h1 z hz

theorem isort_sorted : ∀ l : List Int, (isort l).Pairwise (· ≤ ·)
  | [] => .nil
  | x :: r => ins_sorted x _ (isort_sorted r)

theorem insertionSort_isort (zs : List Int) : Sort.insertionSort ltInt zs.toArray 0 zs.length = (isort zs).toArray := by
  obtain ⟨hP, hSo⟩ := insertionSort_holds (lt := ltInt) swo_ltInt zs.toArray 0 zs.length (Nat.zero_le _) (by simp)
  obtain ⟨hsz, _, hperm⟩ := hP
  generalize Sort.insertionSort ltInt zs.toArray 0 zs.length = d at *
  have hsz' : d.size = zs.length := by simpa using hsz
  have e1 : d.extract 0 zs.length = d := by rw [← hsz']; exact Array.extract_size
  have e2 : zs.toArray.extract 0 zs.length = zs.toArray := by
    simp
  rw [e1, e2] at hperm
  have : d.toList = isort zs := by
    refine List.Perm.eq_of_pairwise (le := fun x y => x ≤ y) (fun a b _ _ h1 h2 => by omega) ?_ (isort_sorted zs) ((by simpa using hperm : d.toList.Perm zs).trans (isort_perm zs).symm)
    rw [List.pairwise_iff_getElem]
    intro i j hi hj hij
    have hi' : i < d.size := by simpa using hi
    have hj' : j < d.size := by simpa using hj
    have := hSo i j (Nat.zero_le _) hij (by omega)
    rw [getElem!_pos d j hj', getElem!_pos d i hi'] at this
    simp only [ltInt, decide_eq_false_iff_not] at this
    simpa using (by omega : d[i] ≤ d[j])
  rw [← this]

theorem uniqF_eq : ∀ (r : List Int) (p : Int), ((List.range r.length).filter (fun j => decide (r[j]! ≠ (p :: r)[j]!))).map (r[·]!) = uniqF p r
  | [], _ => rfl
  | x :: r, p => by
    have ih := uniqF_eq r x
    have hs : ((List.map Nat.succ (List.range r.length)).filter (fun j => decide ((x :: r)[j]! ≠ (p :: x :: r)[j]!))).map ((x :: r)[·]!) = uniqF x r := by
      rw [List.filter_map, List.map_map, ← ih]
      congr 1
    rw [List.length_cons, List.range_succ_eq_map, List.filter_cons]
    unfold uniqF
    by_cases hx : x = p
    · have h0 : decide ((x :: r)[0]! ≠ (p :: x :: r)[0]!) = false := by simp [hx]
      rw [h0]
      simp only [Bool.false_eq_true, if_false, hx, decide_true, cond_true]
      subst hx
      exact hs
    · have h0 : decide ((x :: r)[0]! ≠ (p :: x :: r)[0]!) = true := by simp [hx]
      rw [h0]
      simp only [if_true, hx, decide_false, cond_false, List.map_cons]
      rw [hs]
      rfl

theorem compact_uniq (zs : List Int) : Lib.compact zs = uniq zs := by
  unfold Lib.compact Lib.compactUpTo
  cases zs with
  | nil => rfl
  | cons x r =>
    rw [List.length_cons, List.range_succ_eq_map, List.filter_cons]
    have h0 : Lib.keeps (x :: r).toArray 0 = true := by simp [Lib.keeps]
    rw [h0]
    simp only [if_true, List.map_cons]
    show _ = x :: uniqF x r
    rw [← uniqF_eq r x, List.filter_map, List.map_map]
    have e1 : (Lib.keeps (x :: r).toArray ∘ Nat.succ) = fun j => decide (r[j]! ≠ (x :: r)[j]!) := by
      funext j
      simp [Lib.keeps]
    have e2 : ((fun j => (x :: r).toArray[j]!) ∘ Nat.succ) = fun j => r[j]! := by
      funext j
      simp
    rw [e1, e2]
    simp

theorem uniqF_mem (p x : Int) : ∀ l, x ∈ uniqF p l → x ∈ l
  | [], h => h
  | y :: r, h => by
    unfold uniqF at h
    cases hd : decide (y = p) with
    | true => rw [hd] at h; exact List.mem_cons_of_mem _ (uniqF_mem y x r h)
    | false =>
      rw [hd] at h
      rcases List.mem_cons.1 h with rfl | h
      · exact List.mem_cons_self
      · exact List.mem_cons_of_mem _ (uniqF_mem y x r h)

theorem uniqF_length (p : Int) : ∀ l, (uniqF p l).length ≤ l.length
  | [] => Nat.le_refl _
  | y :: r => by
    unfold uniqF
    have := uniqF_length y r
    cases decide (y = p) with
    | true => simp only [cond_true, List.length_cons]; omega
    | false => simp only [cond_false, List.length_cons]; omega

theorem uniq_length : ∀ l, (uniq l).length ≤ l.length
  | [] => Nat.le_refl _
  | y :: r => by
    have := uniqF_length y r
    simp only [uniq, List.length_cons]; omega

theorem isort_length (l : List Int) : (isort l).length = l.length := (isort_perm l).length_eq
end Go.Ev
