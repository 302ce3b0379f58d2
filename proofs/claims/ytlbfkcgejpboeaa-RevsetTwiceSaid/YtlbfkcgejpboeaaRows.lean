/-
  No cell of these rows narrows 'for every input' (looked for: loops, veiled, ifaces, maps, wideKeys, modest, calm, conditions, laid).
  DERIVED. THE GIVEN ROWS OF THIS SEAT. 8 by the template 'for every input the law returns true; each argument reads behind the call as it read before'; 0 by the template 'total and deterministic' (their statements: YtlbfkcgejpboeaaTotals.lean).
  GIVEN WITH THE SEED: the statements are not yours to turn. If you find one false, say at which input.
  Laid BY PROGRAM, IN A SANDBOX (cutbox-rows.mjs): the forced cells as the released guide's own fill.sh prints them over the translation 4b251199de951da3… (all of the seat's roots in one cut). By AI agents, Wed Nov 11 2026. No macro, syntax, notation, axiom, sorry.
-/
import Derived.Test.YtlbfkcgejpboeaaChecked
import GoSem.Claim
import GoSem.ClaimJoined
import GoSem.ClaimMapViews
import Derived.JoinedTies
import Derived.KernelRfl
namespace Go.Proofs.Ytlbfkcgejpboeaa
/- THE CELL 'sum', in the pinned program and in every row, IS THE sha256 OF THE DUMP (.gsa) THAT YtlbfkcgejpboeaaProg.lean LOADS. Nothing in Lean hashes anything: it is a label: what it is worth is what the hold of that sum in a sandbox is worth. -/
noncomputable def Try.pinned : Pinned := { name := "ytlbfkcgejpboeaa", sum := "4b251199de951da3ee6b2523b5d9b3560fd1cfc9a2dea4d48457ec1c3ec342a8", checked := Try.checked }
namespace Rows
def none {H : Type} : Left H := { results := [], args := [] }

/-- 'stockyardlaw12.RevsetTwice': WHATEVER THE INPUT: true; the input reads as it did. -/
def revsetTwiceSpec : ChangeSpec := { name := "revsetTwice", fn := fun _ => fun
  | [d1, d2, d3] => { results := [.lit (.bool true)], args := [d1, d2, d3] }
  | _ => none }
def revsetTwiceRow : OpenClaim := { program := "ytlbfkcgejpboeaa", sum := "4b251199de951da3ee6b2523b5d9b3560fd1cfc9a2dea4d48457ec1c3ec342a8", func := "stockyard/stockyardlaw12.RevsetTwice", spec := "revsetTwice", unfollowed := true, recurses := true, apart := false }
def RevsetTwiceSaid : Prop := revsetTwiceRow.holds Try.pinned (OpenSpec.ofChange revsetTwiceSpec)

/-- ITS FALSE NEIGHBOUR: 'it returns false'. Refute it at one input. -/
def revsetTwiceWrong : ChangeSpec := { name := "revsetTwice", fn := fun _ => fun
  | [d1, d2, d3] => { results := [.lit (.bool false)], args := [d1, d2, d3] }
  | _ => none }
def RevsetTwiceWrongFalsely : Prop := revsetTwiceRow.holds Try.pinned (OpenSpec.ofChange revsetTwiceWrong)

/-- 'stockyardlaw12.RevsetAsks': WHATEVER THE INPUT: true; the input reads as it did. -/
def revsetAsksSpec : ChangeSpec := { name := "revsetAsks", fn := fun _ => fun
  | [d1, d2, d3] => { results := [.lit (.bool true)], args := [d1, d2, d3] }
  | _ => none }
def revsetAsksRow : OpenClaim := { program := "ytlbfkcgejpboeaa", sum := "4b251199de951da3ee6b2523b5d9b3560fd1cfc9a2dea4d48457ec1c3ec342a8", func := "stockyard/stockyardlaw12.RevsetAsks", spec := "revsetAsks", unfollowed := true, recurses := true, apart := false }
def RevsetAsksSaid : Prop := revsetAsksRow.holds Try.pinned (OpenSpec.ofChange revsetAsksSpec)

/-- ITS FALSE NEIGHBOUR: 'it returns false'. Refute it at one input. -/
def revsetAsksWrong : ChangeSpec := { name := "revsetAsks", fn := fun _ => fun
  | [d1, d2, d3] => { results := [.lit (.bool false)], args := [d1, d2, d3] }
  | _ => none }
def RevsetAsksWrongFalsely : Prop := revsetAsksRow.holds Try.pinned (OpenSpec.ofChange revsetAsksWrong)

/-- 'stockyardlaw12.RevsetMembers': WHATEVER THE INPUT: true; the input reads as it did. -/
def revsetMembersSpec : ChangeSpec := { name := "revsetMembers", fn := fun _ => fun
  | [d1, d2, d3] => { results := [.lit (.bool true)], args := [d1, d2, d3] }
  | _ => none }
def revsetMembersRow : OpenClaim := { program := "ytlbfkcgejpboeaa", sum := "4b251199de951da3ee6b2523b5d9b3560fd1cfc9a2dea4d48457ec1c3ec342a8", func := "stockyard/stockyardlaw12.RevsetMembers", spec := "revsetMembers", unfollowed := true, recurses := true, apart := false }
def RevsetMembersSaid : Prop := revsetMembersRow.holds Try.pinned (OpenSpec.ofChange revsetMembersSpec)

/-- ITS FALSE NEIGHBOUR: 'it returns false'. Refute it at one input. -/
def revsetMembersWrong : ChangeSpec := { name := "revsetMembers", fn := fun _ => fun
  | [d1, d2, d3] => { results := [.lit (.bool false)], args := [d1, d2, d3] }
  | _ => none }
def RevsetMembersWrongFalsely : Prop := revsetMembersRow.holds Try.pinned (OpenSpec.ofChange revsetMembersWrong)

/-- 'stockyardlaw12.RevsetNormalizes': WHATEVER THE INPUT: true; the input reads as it did. -/
def revsetNormalizesSpec : ChangeSpec := { name := "revsetNormalizes", fn := fun _ => fun
  | [d] => { results := [.lit (.bool true)], args := [d] }
  | _ => none }
def revsetNormalizesRow : OpenClaim := { program := "ytlbfkcgejpboeaa", sum := "4b251199de951da3ee6b2523b5d9b3560fd1cfc9a2dea4d48457ec1c3ec342a8", func := "stockyard/stockyardlaw12.RevsetNormalizes", spec := "revsetNormalizes", unfollowed := true, recurses := true, apart := false }
def RevsetNormalizesSaid : Prop := revsetNormalizesRow.holds Try.pinned (OpenSpec.ofChange revsetNormalizesSpec)

/-- ITS FALSE NEIGHBOUR: 'it returns false'. Refute it at one input. -/
def revsetNormalizesWrong : ChangeSpec := { name := "revsetNormalizes", fn := fun _ => fun
  | [d] => { results := [.lit (.bool false)], args := [d] }
  | _ => none }
def RevsetNormalizesWrongFalsely : Prop := revsetNormalizesRow.holds Try.pinned (OpenSpec.ofChange revsetNormalizesWrong)

/-- 'stockyardlaw12.RevsetLaws': WHATEVER THE INPUT: true; the input reads as it did. -/
def revsetLawsSpec : ChangeSpec := { name := "revsetLaws", fn := fun _ => fun
  | [d1, d2, d3] => { results := [.lit (.bool true)], args := [d1, d2, d3] }
  | _ => none }
def revsetLawsRow : OpenClaim := { program := "ytlbfkcgejpboeaa", sum := "4b251199de951da3ee6b2523b5d9b3560fd1cfc9a2dea4d48457ec1c3ec342a8", func := "stockyard/stockyardlaw12.RevsetLaws", spec := "revsetLaws", unfollowed := true, recurses := true, apart := false }
def RevsetLawsSaid : Prop := revsetLawsRow.holds Try.pinned (OpenSpec.ofChange revsetLawsSpec)

/-- ITS FALSE NEIGHBOUR: 'it returns false'. Refute it at one input. -/
def revsetLawsWrong : ChangeSpec := { name := "revsetLaws", fn := fun _ => fun
  | [d1, d2, d3] => { results := [.lit (.bool false)], args := [d1, d2, d3] }
  | _ => none }
def RevsetLawsWrongFalsely : Prop := revsetLawsRow.holds Try.pinned (OpenSpec.ofChange revsetLawsWrong)

/-- 'stockyardlaw12.RevsetCombines': WHATEVER THE INPUT: true; the input reads as it did. -/
def revsetCombinesSpec : ChangeSpec := { name := "revsetCombines", fn := fun _ => fun
  | [d1, d2] => { results := [.lit (.bool true)], args := [d1, d2] }
  | _ => none }
def revsetCombinesRow : OpenClaim := { program := "ytlbfkcgejpboeaa", sum := "4b251199de951da3ee6b2523b5d9b3560fd1cfc9a2dea4d48457ec1c3ec342a8", func := "stockyard/stockyardlaw12.RevsetCombines", spec := "revsetCombines", unfollowed := true, recurses := true, apart := false }
def RevsetCombinesSaid : Prop := revsetCombinesRow.holds Try.pinned (OpenSpec.ofChange revsetCombinesSpec)

/-- ITS FALSE NEIGHBOUR: 'it returns false'. Refute it at one input. -/
def revsetCombinesWrong : ChangeSpec := { name := "revsetCombines", fn := fun _ => fun
  | [d1, d2] => { results := [.lit (.bool false)], args := [d1, d2] }
  | _ => none }
def RevsetCombinesWrongFalsely : Prop := revsetCombinesRow.holds Try.pinned (OpenSpec.ofChange revsetCombinesWrong)

/-- 'stockyardlaw12.RevsetMeans': WHATEVER THE INPUT: true; the input reads as it did. -/
def revsetMeansSpec : ChangeSpec := { name := "revsetMeans", fn := fun _ => fun
  | [d1, d2, d3] => { results := [.lit (.bool true)], args := [d1, d2, d3] }
  | _ => none }
def revsetMeansRow : OpenClaim := { program := "ytlbfkcgejpboeaa", sum := "4b251199de951da3ee6b2523b5d9b3560fd1cfc9a2dea4d48457ec1c3ec342a8", func := "stockyard/stockyardlaw12.RevsetMeans", spec := "revsetMeans", unfollowed := true, recurses := true, apart := false }
def RevsetMeansSaid : Prop := revsetMeansRow.holds Try.pinned (OpenSpec.ofChange revsetMeansSpec)

/-- ITS FALSE NEIGHBOUR: 'it returns false'. Refute it at one input. -/
def revsetMeansWrong : ChangeSpec := { name := "revsetMeans", fn := fun _ => fun
  | [d1, d2, d3] => { results := [.lit (.bool false)], args := [d1, d2, d3] }
  | _ => none }
def RevsetMeansWrongFalsely : Prop := revsetMeansRow.holds Try.pinned (OpenSpec.ofChange revsetMeansWrong)

/-- 'stockyardlaw12.RevsetCounts': WHATEVER THE INPUT: true; the input reads as it did. -/
def revsetCountsSpec : ChangeSpec := { name := "revsetCounts", fn := fun _ => fun
  | [d1, d2] => { results := [.lit (.bool true)], args := [d1, d2] }
  | _ => none }
def revsetCountsRow : OpenClaim := { program := "ytlbfkcgejpboeaa", sum := "4b251199de951da3ee6b2523b5d9b3560fd1cfc9a2dea4d48457ec1c3ec342a8", func := "stockyard/stockyardlaw12.RevsetCounts", spec := "revsetCounts", unfollowed := true, recurses := true, apart := false }
def RevsetCountsSaid : Prop := revsetCountsRow.holds Try.pinned (OpenSpec.ofChange revsetCountsSpec)

/-- ITS FALSE NEIGHBOUR: 'it returns false'. Refute it at one input. -/
def revsetCountsWrong : ChangeSpec := { name := "revsetCounts", fn := fun _ => fun
  | [d1, d2] => { results := [.lit (.bool false)], args := [d1, d2] }
  | _ => none }
def RevsetCountsWrongFalsely : Prop := revsetCountsRow.holds Try.pinned (OpenSpec.ofChange revsetCountsWrong)

/- THE SECOND FORM. 'bulk': how many values and letters a reading holds, each counted each time it is reached (what is shared counts as often as it is met; a slice's spare places count too). A statement '..UptoSaid' is the law's where the arguments, and the package variables that the reading takes, are together of bulk at most 1048576: NARROWER than '..Said'. Prove '..Said' where nothing that the law and all that it calls make is longer than what came in: it says more and counts as full. Else prove '..UptoSaid'. A law counts once. -/
mutual
def uptoBulk {H : Type} : DataW H → Nat
  | .lit (.string bytes) => bytes.length + 1
  | .lit _ => 1
  | .nil => 1
  | .ptr d => uptoBulk d + 1
  | .slice elems spare => uptoBulkAll elems + uptoBulkAll spare + 1
  | .agg parts => uptoBulkAll parts + 1
  | .iface _ d => uptoBulk d + 1
  | .map entries => uptoBulkEntries entries + 1
  | .held _ => 1
def uptoBulkAll {H : Type} : List (DataW H) → Nat
  | [] => 0
  | d :: r => uptoBulk d + uptoBulkAll r
def uptoBulkEntries {H : Type} : List (Lit × DataW H) → Nat
  | [] => 0
  | x :: r => uptoBulkEntry x + uptoBulkEntries r
def uptoBulkEntry {H : Type} : Lit × DataW H → Nat
  | (.string bytes, d) => bytes.length + uptoBulk d + 1
  | (_, d) => uptoBulk d + 1
 end
def uptoSmall : (H : Type) → List (DataW H) → Bool := fun _ ds => decide (uptoBulkAll ds ≤ 1048576)
def OpenSpec.upto (s : _root_.Go.ChangeSpec) : _root_.Go.OpenSpec := { _root_.Go.OpenSpec.ofChange s with cond := some uptoSmall }

/-- 'stockyardlaw12.RevsetTwice', WHERE WHAT IT READS IS OF BULK AT MOST 1048576: true; the input reads as it did. -/
def revsetTwiceUptoRow : OpenClaim := { program := "ytlbfkcgejpboeaa", sum := "4b251199de951da3ee6b2523b5d9b3560fd1cfc9a2dea4d48457ec1c3ec342a8", func := "stockyard/stockyardlaw12.RevsetTwice", spec := "revsetTwice", unfollowed := true, recurses := true, apart := false, narrowed := true }
def RevsetTwiceUptoSaid : Prop := revsetTwiceUptoRow.holds Try.pinned (OpenSpec.upto revsetTwiceSpec)

/-- 'stockyardlaw12.RevsetAsks', WHERE WHAT IT READS IS OF BULK AT MOST 1048576: true; the input reads as it did. -/
def revsetAsksUptoRow : OpenClaim := { program := "ytlbfkcgejpboeaa", sum := "4b251199de951da3ee6b2523b5d9b3560fd1cfc9a2dea4d48457ec1c3ec342a8", func := "stockyard/stockyardlaw12.RevsetAsks", spec := "revsetAsks", unfollowed := true, recurses := true, apart := false, narrowed := true }
def RevsetAsksUptoSaid : Prop := revsetAsksUptoRow.holds Try.pinned (OpenSpec.upto revsetAsksSpec)

/-- 'stockyardlaw12.RevsetMembers', WHERE WHAT IT READS IS OF BULK AT MOST 1048576: true; the input reads as it did. -/
def revsetMembersUptoRow : OpenClaim := { program := "ytlbfkcgejpboeaa", sum := "4b251199de951da3ee6b2523b5d9b3560fd1cfc9a2dea4d48457ec1c3ec342a8", func := "stockyard/stockyardlaw12.RevsetMembers", spec := "revsetMembers", unfollowed := true, recurses := true, apart := false, narrowed := true }
def RevsetMembersUptoSaid : Prop := revsetMembersUptoRow.holds Try.pinned (OpenSpec.upto revsetMembersSpec)

/-- 'stockyardlaw12.RevsetNormalizes', WHERE WHAT IT READS IS OF BULK AT MOST 1048576: true; the input reads as it did. -/
def revsetNormalizesUptoRow : OpenClaim := { program := "ytlbfkcgejpboeaa", sum := "4b251199de951da3ee6b2523b5d9b3560fd1cfc9a2dea4d48457ec1c3ec342a8", func := "stockyard/stockyardlaw12.RevsetNormalizes", spec := "revsetNormalizes", unfollowed := true, recurses := true, apart := false, narrowed := true }
def RevsetNormalizesUptoSaid : Prop := revsetNormalizesUptoRow.holds Try.pinned (OpenSpec.upto revsetNormalizesSpec)

/-- 'stockyardlaw12.RevsetLaws', WHERE WHAT IT READS IS OF BULK AT MOST 1048576: true; the input reads as it did. -/
def revsetLawsUptoRow : OpenClaim := { program := "ytlbfkcgejpboeaa", sum := "4b251199de951da3ee6b2523b5d9b3560fd1cfc9a2dea4d48457ec1c3ec342a8", func := "stockyard/stockyardlaw12.RevsetLaws", spec := "revsetLaws", unfollowed := true, recurses := true, apart := false, narrowed := true }
def RevsetLawsUptoSaid : Prop := revsetLawsUptoRow.holds Try.pinned (OpenSpec.upto revsetLawsSpec)

/-- 'stockyardlaw12.RevsetCombines', WHERE WHAT IT READS IS OF BULK AT MOST 1048576: true; the input reads as it did. -/
def revsetCombinesUptoRow : OpenClaim := { program := "ytlbfkcgejpboeaa", sum := "4b251199de951da3ee6b2523b5d9b3560fd1cfc9a2dea4d48457ec1c3ec342a8", func := "stockyard/stockyardlaw12.RevsetCombines", spec := "revsetCombines", unfollowed := true, recurses := true, apart := false, narrowed := true }
def RevsetCombinesUptoSaid : Prop := revsetCombinesUptoRow.holds Try.pinned (OpenSpec.upto revsetCombinesSpec)

/-- 'stockyardlaw12.RevsetMeans', WHERE WHAT IT READS IS OF BULK AT MOST 1048576: true; the input reads as it did. -/
def revsetMeansUptoRow : OpenClaim := { program := "ytlbfkcgejpboeaa", sum := "4b251199de951da3ee6b2523b5d9b3560fd1cfc9a2dea4d48457ec1c3ec342a8", func := "stockyard/stockyardlaw12.RevsetMeans", spec := "revsetMeans", unfollowed := true, recurses := true, apart := false, narrowed := true }
def RevsetMeansUptoSaid : Prop := revsetMeansUptoRow.holds Try.pinned (OpenSpec.upto revsetMeansSpec)

/-- 'stockyardlaw12.RevsetCounts', WHERE WHAT IT READS IS OF BULK AT MOST 1048576: true; the input reads as it did. -/
def revsetCountsUptoRow : OpenClaim := { program := "ytlbfkcgejpboeaa", sum := "4b251199de951da3ee6b2523b5d9b3560fd1cfc9a2dea4d48457ec1c3ec342a8", func := "stockyard/stockyardlaw12.RevsetCounts", spec := "revsetCounts", unfollowed := true, recurses := true, apart := false, narrowed := true }
def RevsetCountsUptoSaid : Prop := revsetCountsUptoRow.holds Try.pinned (OpenSpec.upto revsetCountsSpec)

end Rows
end Go.Proofs.Ytlbfkcgejpboeaa
