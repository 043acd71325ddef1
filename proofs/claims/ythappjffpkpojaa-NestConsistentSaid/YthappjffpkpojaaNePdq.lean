/-
  slices.Sort of at most twelve numbers, the outer functions: pdqsortOrdered hands on to insertionSort.
-/
import Derived.Test.YthappjffpkpojaaNeSort
import Derived.Deep.Cut
namespace Go.Ev
open Go Go.Proofs Go.RowKit Go.Sort
set_option linter.unusedSimpArgs false
set_option linter.unusedSectionVars false
set_option linter.unusedVariables false

set_option maxHeartbeats 1600000 in
set_option maxRecDepth 1000000 in
theorem pdqsort_few (blk off cap : Nat) (limit : Int) (d : Array Int) (w : World) (hH : Holds (Value.int .i64) w blk off d) (hsz : d.size ≤ 12) :
    Calls Try.prog 47 #[.slice (some ⟨blk, off, none⟩) d.size cap, .int .i64 0, .int .i64 (d.size : Nat), .int .i64 limit] w fun e w' =>
      e = .returned (.tuple #[]) ∧ ∃ n, w' = putRow (Value.int .i64) (Sort.ahead w n) blk off (Sort.insertionSort ltInt d 0 d.size) := by
  have hc : ∀ w', w' = w → Calls Try.prog 51 #[.slice (some ⟨blk, off, none⟩) d.size cap, .int .i64 0, .int .i64 (d.size : Nat)] w' fun e w' => e = .returned (.tuple #[]) ∧ ∃ n, w' = putRow (Value.int .i64) (Sort.ahead w n) blk off (Sort.insertionSort ltInt d 0 d.size) := by
    rintro w' rfl
    exact insertionSort_int blk off cap 0 d.size d _ hH (Nat.zero_le _) (Nat.le_refl _) (by omega)
  clear hH
  have h12z : (d.size : Int) - 0 ≤ 12 := by omega
  have h12y : (d.size : Int) ≤ 12 := by omega
  go_enter Try.func47, Try.ntmps47
  go_wp2
  go_loopw [1, 2] (fun v1 v2 wr => v1 = .int .i64 0 ∧ v2 = .int .i64 (d.size : Nat) ∧ wr = w) (fun _ _ _ => 0)
  case atStart => exact ⟨rfl, rfl, rfl⟩
  case round =>
    obtain ⟨rfl, rfl, rfl⟩ := hrel
    go_wp2_with (go_at_call 51; refine (hc _ rfl).mono ?_; rintro e w1 ⟨rfl, hw1⟩)
    (try simp only [Exit.inBlock, Exit.then]); refine bodyPost_ret (results_none rfl _ _ _) rfl ?_
    exact ⟨rfl, hw1⟩

set_option maxRecDepth 100000 in
theorem sort_few (blk off cap : Nat) (d : Array Int) (w : World) (hH : Holds (Value.int .i64) w blk off d) (hsz : d.size ≤ 12) :
    Calls Try.prog 32 #[.slice (some ⟨blk, off, none⟩) d.size cap] w fun e w' => e = .returned (.tuple #[]) ∧ ∃ n, w' = putRow (Value.int .i64) (Sort.ahead w n) blk off (Sort.insertionSort ltInt d 0 d.size) := by
  have hp : ∀ l, Calls Try.prog 47 #[.slice (some ⟨blk, off, none⟩) d.size cap, .int .i64 0, .int .i64 (d.size : Nat), .int .i64 l] w fun e w' => e = .returned (.tuple #[]) ∧ ∃ n, w' = putRow (Value.int .i64) (Sort.ahead w n) blk off (Sort.insertionSort ltInt d 0 d.size) := fun l =>
    pdqsort_few blk off cap l d w hH hsz
  clear hH
  have hLen : ∀ w, Calls Try.prog 48 #[.int .u64 (d.size : Int)] w fun e w' => e = .returned (.int .i64 (Lib.bitLen d.size : Nat)) ∧ w' = w := fun w => by
    have h := Try.bits_Len (d.size : Int) w (by omega) (by omega)
    rwa [Int.toNat_natCast] at h
  go_enter Try.func32, Try.ntmps32
  go_wp2_with (first
    | (go_at_call 48; refine (hLen _).mono ?_; rintro e w' ⟨rfl, rfl⟩)
    | (go_at_call 47; refine (hp _).mono ?_; rintro e w' ⟨rfl, n, rfl⟩))
  go_end0
  exact ⟨rfl, n, rfl⟩
end Go.Ev
