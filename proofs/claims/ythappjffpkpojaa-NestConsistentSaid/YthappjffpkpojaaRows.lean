/-
  No cell of these rows narrows 'for every input' (looked for: loops, veiled, ifaces, maps, wideKeys, modest, calm, conditions, laid).
  DERIVED. THE GIVEN ROWS OF THIS SEAT. 4 by the template 'for every input the law returns true; each argument reads behind the call as it read before'; 0 by the template 'total and deterministic' (their statements: YthappjffpkpojaaTotals.lean).
  GIVEN WITH THE SEED: the statements are not yours to turn. If you find one false, say at which input.
  Laid BY PROGRAM, IN A SANDBOX (cutbox-rows.mjs): the forced cells as the released guide's own fill.sh prints them over the translation 7c1ead3f877f28dd… (all of the seat's roots in one cut). By AI agents, Wed Nov 11 2026. No macro, syntax, notation, axiom, sorry.
-/
import Derived.Test.YthappjffpkpojaaChecked
import GoSem.Claim
import GoSem.ClaimJoined
import GoSem.ClaimMapViews
import Derived.JoinedTies
import Derived.KernelRfl
namespace Go.Proofs.Ythappjffpkpojaa
/- THE CELL 'sum', in the pinned program and in every row, IS THE sha256 OF THE DUMP (.gsa) THAT YthappjffpkpojaaProg.lean LOADS. Nothing in Lean hashes anything: it is a label: what it is worth is what the hold of that sum in a sandbox is worth. -/
noncomputable def Try.pinned : Pinned := { name := "ythappjffpkpojaa", sum := "7c1ead3f877f28dd8200328cac80e23e33dc3592dc3084a7cbf1b646abfed300", checked := Try.checked }
namespace Rows
def none {H : Type} : Left H := { results := [], args := [] }

/-- 'swarflaw39.NestNest': WHATEVER THE INPUT: true; the input reads as it did. -/
def nestNestSpec : ChangeSpec := { name := "nestNest", fn := fun _ => fun
  | [d] => { results := [.lit (.bool true)], args := [d] }
  | _ => none }
def nestNestRow : OpenClaim := { program := "ythappjffpkpojaa", sum := "7c1ead3f877f28dd8200328cac80e23e33dc3592dc3084a7cbf1b646abfed300", func := "swarf/swarflaw39.NestNest", spec := "nestNest", unfollowed := true, recurses := true, apart := false }
def NestNestSaid : Prop := nestNestRow.holds Try.pinned (OpenSpec.ofChange nestNestSpec)

/-- ITS FALSE NEIGHBOUR: 'it returns false'. Refute it at one input. -/
def nestNestWrong : ChangeSpec := { name := "nestNest", fn := fun _ => fun
  | [d] => { results := [.lit (.bool false)], args := [d] }
  | _ => none }
def NestNestWrongFalsely : Prop := nestNestRow.holds Try.pinned (OpenSpec.ofChange nestNestWrong)

/-- 'swarflaw39.NestSpots': WHATEVER THE INPUT: true; the input reads as it did. -/
def nestSpotsSpec : ChangeSpec := { name := "nestSpots", fn := fun _ => fun
  | [d] => { results := [.lit (.bool true)], args := [d] }
  | _ => none }
def nestSpotsRow : OpenClaim := { program := "ythappjffpkpojaa", sum := "7c1ead3f877f28dd8200328cac80e23e33dc3592dc3084a7cbf1b646abfed300", func := "swarf/swarflaw39.NestSpots", spec := "nestSpots", unfollowed := true, recurses := true, apart := false }
def NestSpotsSaid : Prop := nestSpotsRow.holds Try.pinned (OpenSpec.ofChange nestSpotsSpec)

/-- ITS FALSE NEIGHBOUR: 'it returns false'. Refute it at one input. -/
def nestSpotsWrong : ChangeSpec := { name := "nestSpots", fn := fun _ => fun
  | [d] => { results := [.lit (.bool false)], args := [d] }
  | _ => none }
def NestSpotsWrongFalsely : Prop := nestSpotsRow.holds Try.pinned (OpenSpec.ofChange nestSpotsWrong)

/-- 'swarflaw39.NestValid': WHATEVER THE INPUT: true; the input reads as it did. -/
def nestValidSpec : ChangeSpec := { name := "nestValid", fn := fun _ => fun
  | [d1, d2] => { results := [.lit (.bool true)], args := [d1, d2] }
  | _ => none }
def nestValidRow : OpenClaim := { program := "ythappjffpkpojaa", sum := "7c1ead3f877f28dd8200328cac80e23e33dc3592dc3084a7cbf1b646abfed300", func := "swarf/swarflaw39.NestValid", spec := "nestValid", unfollowed := true, recurses := true, apart := false }
def NestValidSaid : Prop := nestValidRow.holds Try.pinned (OpenSpec.ofChange nestValidSpec)

/-- ITS FALSE NEIGHBOUR: 'it returns false'. Refute it at one input. -/
def nestValidWrong : ChangeSpec := { name := "nestValid", fn := fun _ => fun
  | [d1, d2] => { results := [.lit (.bool false)], args := [d1, d2] }
  | _ => none }
def NestValidWrongFalsely : Prop := nestValidRow.holds Try.pinned (OpenSpec.ofChange nestValidWrong)

/-- 'swarflaw39.NestConsistent': WHATEVER THE INPUT: true; the input reads as it did. -/
def nestConsistentSpec : ChangeSpec := { name := "nestConsistent", fn := fun _ => fun
  | [d] => { results := [.lit (.bool true)], args := [d] }
  | _ => none }
def nestConsistentRow : OpenClaim := { program := "ythappjffpkpojaa", sum := "7c1ead3f877f28dd8200328cac80e23e33dc3592dc3084a7cbf1b646abfed300", func := "swarf/swarflaw39.NestConsistent", spec := "nestConsistent", unfollowed := true, recurses := true, apart := false }
def NestConsistentSaid : Prop := nestConsistentRow.holds Try.pinned (OpenSpec.ofChange nestConsistentSpec)

/-- ITS FALSE NEIGHBOUR: 'it returns false'. Refute it at one input. -/
def nestConsistentWrong : ChangeSpec := { name := "nestConsistent", fn := fun _ => fun
  | [d] => { results := [.lit (.bool false)], args := [d] }
  | _ => none }
def NestConsistentWrongFalsely : Prop := nestConsistentRow.holds Try.pinned (OpenSpec.ofChange nestConsistentWrong)

/- THE SECOND FORM. 'bulk': how many values and letters a reading holds, each counted each time it is reached (what is shared counts as often as it is met; a slice's spare places count too). A statement '..UptoSaid' is the law's where the arguments, and the package variables that the reading takes, are together of bulk at most 1048576: NARROWER than '..Said'. Prove '..Said' where nothing that the law and all that it calls make is longer than what came in: it says more and counts as full. Else prove '..UptoSaid'. A law counts once. -/
mutual
def uptoBulk {H : Type} : DataW H → Nat
  | .lit (.string bytes) => bytes.length + 1
  | .lit _ => 1
  | .nil => 1
  | .ptr d => uptoBulk d + 1
  | .slice elems spare => uptoBulkAll elems + uptoBulkAll spare + 1
  | .agg parts => uptoBulkAll parts + 1
  | .iface _ d => uptoBulk d + 1
  | .map entries => uptoBulkEntries entries + 1
  | .held _ => 1
def uptoBulkAll {H : Type} : List (DataW H) → Nat
  | [] => 0
  | d :: r => uptoBulk d + uptoBulkAll r
def uptoBulkEntries {H : Type} : List (Lit × DataW H) → Nat
  | [] => 0
  | x :: r => uptoBulkEntry x + uptoBulkEntries r
def uptoBulkEntry {H : Type} : Lit × DataW H → Nat
  | (.string bytes, d) => bytes.length + uptoBulk d + 1
  | (_, d) => uptoBulk d + 1
 end
def uptoSmall : (H : Type) → List (DataW H) → Bool := fun _ ds => decide (uptoBulkAll ds ≤ 1048576)
def OpenSpec.upto (s : _root_.Go.ChangeSpec) : _root_.Go.OpenSpec := { _root_.Go.OpenSpec.ofChange s with cond := some uptoSmall }

/-- 'swarflaw39.NestNest', WHERE WHAT IT READS IS OF BULK AT MOST 1048576: true; the input reads as it did. -/
def nestNestUptoRow : OpenClaim := { program := "ythappjffpkpojaa", sum := "7c1ead3f877f28dd8200328cac80e23e33dc3592dc3084a7cbf1b646abfed300", func := "swarf/swarflaw39.NestNest", spec := "nestNest", unfollowed := true, recurses := true, apart := false, narrowed := true }
def NestNestUptoSaid : Prop := nestNestUptoRow.holds Try.pinned (OpenSpec.upto nestNestSpec)

/-- 'swarflaw39.NestSpots', WHERE WHAT IT READS IS OF BULK AT MOST 1048576: true; the input reads as it did. -/
def nestSpotsUptoRow : OpenClaim := { program := "ythappjffpkpojaa", sum := "7c1ead3f877f28dd8200328cac80e23e33dc3592dc3084a7cbf1b646abfed300", func := "swarf/swarflaw39.NestSpots", spec := "nestSpots", unfollowed := true, recurses := true, apart := false, narrowed := true }
def NestSpotsUptoSaid : Prop := nestSpotsUptoRow.holds Try.pinned (OpenSpec.upto nestSpotsSpec)

/-- 'swarflaw39.NestValid', WHERE WHAT IT READS IS OF BULK AT MOST 1048576: true; the input reads as it did. -/
def nestValidUptoRow : OpenClaim := { program := "ythappjffpkpojaa", sum := "7c1ead3f877f28dd8200328cac80e23e33dc3592dc3084a7cbf1b646abfed300", func := "swarf/swarflaw39.NestValid", spec := "nestValid", unfollowed := true, recurses := true, apart := false, narrowed := true }
def NestValidUptoSaid : Prop := nestValidUptoRow.holds Try.pinned (OpenSpec.upto nestValidSpec)

/-- 'swarflaw39.NestConsistent', WHERE WHAT IT READS IS OF BULK AT MOST 1048576: true; the input reads as it did. -/
def nestConsistentUptoRow : OpenClaim := { program := "ythappjffpkpojaa", sum := "7c1ead3f877f28dd8200328cac80e23e33dc3592dc3084a7cbf1b646abfed300", func := "swarf/swarflaw39.NestConsistent", spec := "nestConsistent", unfollowed := true, recurses := true, apart := false, narrowed := true }
def NestConsistentUptoSaid : Prop := nestConsistentUptoRow.holds Try.pinned (OpenSpec.upto nestConsistentSpec)

end Rows
end Go.Proofs.Ythappjffpkpojaa
