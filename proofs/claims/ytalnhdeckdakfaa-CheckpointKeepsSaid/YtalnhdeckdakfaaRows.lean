/-
  No cell of these rows narrows 'for every input' (looked for: loops, veiled, ifaces, maps, wideKeys, modest, calm, conditions, laid).
  DERIVED. THE GIVEN ROWS OF THIS SEAT. 8 by the template 'for every input the law returns true; each argument reads behind the call as it read before'; 0 by the template 'total and deterministic' (their statements: YtalnhdeckdakfaaTotals.lean).
  GIVEN WITH THE SEED: the statements are not yours to turn. If you find one false, say at which input.
  Laid BY PROGRAM, IN A SANDBOX (cutbox-rows.mjs): the forced cells as the released guide's own fill.sh prints them over the translation c511e86c98767986… (all of the seat's roots in one cut). By AI agents, Wed Nov 11 2026. No macro, syntax, notation, axiom, sorry.
-/
import Derived.Test.YtalnhdeckdakfaaChecked
import GoSem.Claim
import GoSem.ClaimJoined
import GoSem.ClaimMapViews
import Derived.JoinedTies
import Derived.KernelRfl
namespace Go.Proofs.Ytalnhdeckdakfaa
/- THE CELL 'sum', in the pinned program and in every row, IS THE sha256 OF THE DUMP (.gsa) THAT YtalnhdeckdakfaaProg.lean LOADS. Nothing in Lean hashes anything: it is a label: what it is worth is what the hold of that sum in a sandbox is worth. -/
noncomputable def Try.pinned : Pinned := { name := "ytalnhdeckdakfaa", sum := "c511e86c9876798692d958a231dd9d36f4926711f4ea3dd26ab797272f01b94e", checked := Try.checked }
namespace Rows
def none {H : Type} : Left H := { results := [], args := [] }

/-- 'stockyardlaw32.CheckpointPlays': WHATEVER THE INPUT: true; the input reads as it did. -/
def checkpointPlaysSpec : ChangeSpec := { name := "checkpointPlays", fn := fun _ => fun
  | [d] => { results := [.lit (.bool true)], args := [d] }
  | _ => none }
def checkpointPlaysRow : OpenClaim := { program := "ytalnhdeckdakfaa", sum := "c511e86c9876798692d958a231dd9d36f4926711f4ea3dd26ab797272f01b94e", func := "stockyard/stockyardlaw32.CheckpointPlays", spec := "checkpointPlays", inPlace := ["maps.clone"], unfollowed := true, recurses := true, apart := false }
def CheckpointPlaysSaid : Prop := checkpointPlaysRow.holds Try.pinned (OpenSpec.ofChange checkpointPlaysSpec)

/-- ITS FALSE NEIGHBOUR: 'it returns false'. Refute it at one input. -/
def checkpointPlaysWrong : ChangeSpec := { name := "checkpointPlays", fn := fun _ => fun
  | [d] => { results := [.lit (.bool false)], args := [d] }
  | _ => none }
def CheckpointPlaysWrongFalsely : Prop := checkpointPlaysRow.holds Try.pinned (OpenSpec.ofChange checkpointPlaysWrong)

/-- 'stockyardlaw32.CheckpointSizes': WHATEVER THE INPUT: true; the input reads as it did. -/
def checkpointSizesSpec : ChangeSpec := { name := "checkpointSizes", fn := fun _ => fun
  | [d1, d2] => { results := [.lit (.bool true)], args := [d1, d2] }
  | _ => none }
def checkpointSizesRow : OpenClaim := { program := "ytalnhdeckdakfaa", sum := "c511e86c9876798692d958a231dd9d36f4926711f4ea3dd26ab797272f01b94e", func := "stockyard/stockyardlaw32.CheckpointSizes", spec := "checkpointSizes", inPlace := ["maps.clone"], unfollowed := true, recurses := true, apart := false }
def CheckpointSizesSaid : Prop := checkpointSizesRow.holds Try.pinned (OpenSpec.ofChange checkpointSizesSpec)

/-- ITS FALSE NEIGHBOUR: 'it returns false'. Refute it at one input. -/
def checkpointSizesWrong : ChangeSpec := { name := "checkpointSizes", fn := fun _ => fun
  | [d1, d2] => { results := [.lit (.bool false)], args := [d1, d2] }
  | _ => none }
def CheckpointSizesWrongFalsely : Prop := checkpointSizesRow.holds Try.pinned (OpenSpec.ofChange checkpointSizesWrong)

/-- 'stockyardlaw32.CheckpointKeeps': WHATEVER THE INPUT: true; the input reads as it did. -/
def checkpointKeepsSpec : ChangeSpec := { name := "checkpointKeeps", fn := fun _ => fun
  | [d] => { results := [.lit (.bool true)], args := [d] }
  | _ => none }
def checkpointKeepsRow : OpenClaim := { program := "ytalnhdeckdakfaa", sum := "c511e86c9876798692d958a231dd9d36f4926711f4ea3dd26ab797272f01b94e", func := "stockyard/stockyardlaw32.CheckpointKeeps", spec := "checkpointKeeps", inPlace := ["maps.clone"], unfollowed := true, recurses := true, apart := false }
def CheckpointKeepsSaid : Prop := checkpointKeepsRow.holds Try.pinned (OpenSpec.ofChange checkpointKeepsSpec)

/-- ITS FALSE NEIGHBOUR: 'it returns false'. Refute it at one input. -/
def checkpointKeepsWrong : ChangeSpec := { name := "checkpointKeeps", fn := fun _ => fun
  | [d] => { results := [.lit (.bool false)], args := [d] }
  | _ => none }
def CheckpointKeepsWrongFalsely : Prop := checkpointKeepsRow.holds Try.pinned (OpenSpec.ofChange checkpointKeepsWrong)

/-- 'stockyardlaw32.CheckpointEvery': WHATEVER THE INPUT: true; the input reads as it did. -/
def checkpointEverySpec : ChangeSpec := { name := "checkpointEvery", fn := fun _ => fun
  | [d1, d2, d3, d4, d5] => { results := [.lit (.bool true)], args := [d1, d2, d3, d4, d5] }
  | _ => none }
def checkpointEveryRow : OpenClaim := { program := "ytalnhdeckdakfaa", sum := "c511e86c9876798692d958a231dd9d36f4926711f4ea3dd26ab797272f01b94e", func := "stockyard/stockyardlaw32.CheckpointEvery", spec := "checkpointEvery", inPlace := ["maps.clone"], unfollowed := true, recurses := true, apart := false }
def CheckpointEverySaid : Prop := checkpointEveryRow.holds Try.pinned (OpenSpec.ofChange checkpointEverySpec)

/-- ITS FALSE NEIGHBOUR: 'it returns false'. Refute it at one input. -/
def checkpointEveryWrong : ChangeSpec := { name := "checkpointEvery", fn := fun _ => fun
  | [d1, d2, d3, d4, d5] => { results := [.lit (.bool false)], args := [d1, d2, d3, d4, d5] }
  | _ => none }
def CheckpointEveryWrongFalsely : Prop := checkpointEveryRow.holds Try.pinned (OpenSpec.ofChange checkpointEveryWrong)

/-- 'stockyardlaw32.CheckpointNames': WHATEVER THE INPUT: true; the input reads as it did. -/
def checkpointNamesSpec : ChangeSpec := { name := "checkpointNames", fn := fun _ => fun
  | [d1, d2] => { results := [.lit (.bool true)], args := [d1, d2] }
  | _ => none }
def checkpointNamesRow : OpenClaim := { program := "ytalnhdeckdakfaa", sum := "c511e86c9876798692d958a231dd9d36f4926711f4ea3dd26ab797272f01b94e", func := "stockyard/stockyardlaw32.CheckpointNames", spec := "checkpointNames", inPlace := ["maps.clone"], unfollowed := true, recurses := true, apart := false }
def CheckpointNamesSaid : Prop := checkpointNamesRow.holds Try.pinned (OpenSpec.ofChange checkpointNamesSpec)

/-- ITS FALSE NEIGHBOUR: 'it returns false'. Refute it at one input. -/
def checkpointNamesWrong : ChangeSpec := { name := "checkpointNames", fn := fun _ => fun
  | [d1, d2] => { results := [.lit (.bool false)], args := [d1, d2] }
  | _ => none }
def CheckpointNamesWrongFalsely : Prop := checkpointNamesRow.holds Try.pinned (OpenSpec.ofChange checkpointNamesWrong)

/-- 'stockyardlaw32.CheckpointApart': WHATEVER THE INPUT: true; the input reads as it did. -/
def checkpointApartSpec : ChangeSpec := { name := "checkpointApart", fn := fun _ => fun
  | [d] => { results := [.lit (.bool true)], args := [d] }
  | _ => none }
def checkpointApartRow : OpenClaim := { program := "ytalnhdeckdakfaa", sum := "c511e86c9876798692d958a231dd9d36f4926711f4ea3dd26ab797272f01b94e", func := "stockyard/stockyardlaw32.CheckpointApart", spec := "checkpointApart", inPlace := ["maps.clone"], unfollowed := true, recurses := true, apart := false }
def CheckpointApartSaid : Prop := checkpointApartRow.holds Try.pinned (OpenSpec.ofChange checkpointApartSpec)

/-- ITS FALSE NEIGHBOUR: 'it returns false'. Refute it at one input. -/
def checkpointApartWrong : ChangeSpec := { name := "checkpointApart", fn := fun _ => fun
  | [d] => { results := [.lit (.bool false)], args := [d] }
  | _ => none }
def CheckpointApartWrongFalsely : Prop := checkpointApartRow.holds Try.pinned (OpenSpec.ofChange checkpointApartWrong)

/-- 'stockyardlaw32.CheckpointRecovers': WHATEVER THE INPUT: true; the input reads as it did. -/
def checkpointRecoversSpec : ChangeSpec := { name := "checkpointRecovers", fn := fun _ => fun
  | [d] => { results := [.lit (.bool true)], args := [d] }
  | _ => none }
def checkpointRecoversRow : OpenClaim := { program := "ytalnhdeckdakfaa", sum := "c511e86c9876798692d958a231dd9d36f4926711f4ea3dd26ab797272f01b94e", func := "stockyard/stockyardlaw32.CheckpointRecovers", spec := "checkpointRecovers", inPlace := ["maps.clone"], unfollowed := true, recurses := true, apart := false }
def CheckpointRecoversSaid : Prop := checkpointRecoversRow.holds Try.pinned (OpenSpec.ofChange checkpointRecoversSpec)

/-- ITS FALSE NEIGHBOUR: 'it returns false'. Refute it at one input. -/
def checkpointRecoversWrong : ChangeSpec := { name := "checkpointRecovers", fn := fun _ => fun
  | [d] => { results := [.lit (.bool false)], args := [d] }
  | _ => none }
def CheckpointRecoversWrongFalsely : Prop := checkpointRecoversRow.holds Try.pinned (OpenSpec.ofChange checkpointRecoversWrong)

/-- 'stockyardlaw32.CheckpointRestores': WHATEVER THE INPUT: true; the input reads as it did. -/
def checkpointRestoresSpec : ChangeSpec := { name := "checkpointRestores", fn := fun _ => fun
  | [d] => { results := [.lit (.bool true)], args := [d] }
  | _ => none }
def checkpointRestoresRow : OpenClaim := { program := "ytalnhdeckdakfaa", sum := "c511e86c9876798692d958a231dd9d36f4926711f4ea3dd26ab797272f01b94e", func := "stockyard/stockyardlaw32.CheckpointRestores", spec := "checkpointRestores", inPlace := ["maps.clone"], unfollowed := true, recurses := true, apart := false }
def CheckpointRestoresSaid : Prop := checkpointRestoresRow.holds Try.pinned (OpenSpec.ofChange checkpointRestoresSpec)

/-- ITS FALSE NEIGHBOUR: 'it returns false'. Refute it at one input. -/
def checkpointRestoresWrong : ChangeSpec := { name := "checkpointRestores", fn := fun _ => fun
  | [d] => { results := [.lit (.bool false)], args := [d] }
  | _ => none }
def CheckpointRestoresWrongFalsely : Prop := checkpointRestoresRow.holds Try.pinned (OpenSpec.ofChange checkpointRestoresWrong)

/- THE SECOND FORM. 'bulk': how many values and letters a reading holds, each counted each time it is reached (what is shared counts as often as it is met; a slice's spare places count too). A statement '..UptoSaid' is the law's where the arguments, and the package variables that the reading takes, are together of bulk at most 1048576: NARROWER than '..Said'. Prove '..Said' where nothing that the law and all that it calls make is longer than what came in: it says more and counts as full. Else prove '..UptoSaid'. A law counts once. -/
mutual
def uptoBulk {H : Type} : DataW H → Nat
  | .lit (.string bytes) => bytes.length + 1
  | .lit _ => 1
  | .nil => 1
  | .ptr d => uptoBulk d + 1
  | .slice elems spare => uptoBulkAll elems + uptoBulkAll spare + 1
  | .agg parts => uptoBulkAll parts + 1
  | .iface _ d => uptoBulk d + 1
  | .map entries => uptoBulkEntries entries + 1
  | .held _ => 1
def uptoBulkAll {H : Type} : List (DataW H) → Nat
  | [] => 0
  | d :: r => uptoBulk d + uptoBulkAll r
def uptoBulkEntries {H : Type} : List (Lit × DataW H) → Nat
  | [] => 0
  | x :: r => uptoBulkEntry x + uptoBulkEntries r
def uptoBulkEntry {H : Type} : Lit × DataW H → Nat
  | (.string bytes, d) => bytes.length + uptoBulk d + 1
  | (_, d) => uptoBulk d + 1
 end
def uptoSmall : (H : Type) → List (DataW H) → Bool := fun _ ds => decide (uptoBulkAll ds ≤ 1048576)
def OpenSpec.upto (s : _root_.Go.ChangeSpec) : _root_.Go.OpenSpec := { _root_.Go.OpenSpec.ofChange s with cond := some uptoSmall }

/-- 'stockyardlaw32.CheckpointPlays', WHERE WHAT IT READS IS OF BULK AT MOST 1048576: true; the input reads as it did. -/
def checkpointPlaysUptoRow : OpenClaim := { program := "ytalnhdeckdakfaa", sum := "c511e86c9876798692d958a231dd9d36f4926711f4ea3dd26ab797272f01b94e", func := "stockyard/stockyardlaw32.CheckpointPlays", spec := "checkpointPlays", inPlace := ["maps.clone"], unfollowed := true, recurses := true, apart := false, narrowed := true }
def CheckpointPlaysUptoSaid : Prop := checkpointPlaysUptoRow.holds Try.pinned (OpenSpec.upto checkpointPlaysSpec)

/-- 'stockyardlaw32.CheckpointSizes', WHERE WHAT IT READS IS OF BULK AT MOST 1048576: true; the input reads as it did. -/
def checkpointSizesUptoRow : OpenClaim := { program := "ytalnhdeckdakfaa", sum := "c511e86c9876798692d958a231dd9d36f4926711f4ea3dd26ab797272f01b94e", func := "stockyard/stockyardlaw32.CheckpointSizes", spec := "checkpointSizes", inPlace := ["maps.clone"], unfollowed := true, recurses := true, apart := false, narrowed := true }
def CheckpointSizesUptoSaid : Prop := checkpointSizesUptoRow.holds Try.pinned (OpenSpec.upto checkpointSizesSpec)

/-- 'stockyardlaw32.CheckpointKeeps', WHERE WHAT IT READS IS OF BULK AT MOST 1048576: true; the input reads as it did. -/
def checkpointKeepsUptoRow : OpenClaim := { program := "ytalnhdeckdakfaa", sum := "c511e86c9876798692d958a231dd9d36f4926711f4ea3dd26ab797272f01b94e", func := "stockyard/stockyardlaw32.CheckpointKeeps", spec := "checkpointKeeps", inPlace := ["maps.clone"], unfollowed := true, recurses := true, apart := false, narrowed := true }
def CheckpointKeepsUptoSaid : Prop := checkpointKeepsUptoRow.holds Try.pinned (OpenSpec.upto checkpointKeepsSpec)

/-- 'stockyardlaw32.CheckpointEvery', WHERE WHAT IT READS IS OF BULK AT MOST 1048576: true; the input reads as it did. -/
def checkpointEveryUptoRow : OpenClaim := { program := "ytalnhdeckdakfaa", sum := "c511e86c9876798692d958a231dd9d36f4926711f4ea3dd26ab797272f01b94e", func := "stockyard/stockyardlaw32.CheckpointEvery", spec := "checkpointEvery", inPlace := ["maps.clone"], unfollowed := true, recurses := true, apart := false, narrowed := true }
def CheckpointEveryUptoSaid : Prop := checkpointEveryUptoRow.holds Try.pinned (OpenSpec.upto checkpointEverySpec)

/-- 'stockyardlaw32.CheckpointNames', WHERE WHAT IT READS IS OF BULK AT MOST 1048576: true; the input reads as it did. -/
def checkpointNamesUptoRow : OpenClaim := { program := "ytalnhdeckdakfaa", sum := "c511e86c9876798692d958a231dd9d36f4926711f4ea3dd26ab797272f01b94e", func := "stockyard/stockyardlaw32.CheckpointNames", spec := "checkpointNames", inPlace := ["maps.clone"], unfollowed := true, recurses := true, apart := false, narrowed := true }
def CheckpointNamesUptoSaid : Prop := checkpointNamesUptoRow.holds Try.pinned (OpenSpec.upto checkpointNamesSpec)

/-- 'stockyardlaw32.CheckpointApart', WHERE WHAT IT READS IS OF BULK AT MOST 1048576: true; the input reads as it did. -/
def checkpointApartUptoRow : OpenClaim := { program := "ytalnhdeckdakfaa", sum := "c511e86c9876798692d958a231dd9d36f4926711f4ea3dd26ab797272f01b94e", func := "stockyard/stockyardlaw32.CheckpointApart", spec := "checkpointApart", inPlace := ["maps.clone"], unfollowed := true, recurses := true, apart := false, narrowed := true }
def CheckpointApartUptoSaid : Prop := checkpointApartUptoRow.holds Try.pinned (OpenSpec.upto checkpointApartSpec)

/-- 'stockyardlaw32.CheckpointRecovers', WHERE WHAT IT READS IS OF BULK AT MOST 1048576: true; the input reads as it did. -/
def checkpointRecoversUptoRow : OpenClaim := { program := "ytalnhdeckdakfaa", sum := "c511e86c9876798692d958a231dd9d36f4926711f4ea3dd26ab797272f01b94e", func := "stockyard/stockyardlaw32.CheckpointRecovers", spec := "checkpointRecovers", inPlace := ["maps.clone"], unfollowed := true, recurses := true, apart := false, narrowed := true }
def CheckpointRecoversUptoSaid : Prop := checkpointRecoversUptoRow.holds Try.pinned (OpenSpec.upto checkpointRecoversSpec)

/-- 'stockyardlaw32.CheckpointRestores', WHERE WHAT IT READS IS OF BULK AT MOST 1048576: true; the input reads as it did. -/
def checkpointRestoresUptoRow : OpenClaim := { program := "ytalnhdeckdakfaa", sum := "c511e86c9876798692d958a231dd9d36f4926711f4ea3dd26ab797272f01b94e", func := "stockyard/stockyardlaw32.CheckpointRestores", spec := "checkpointRestores", inPlace := ["maps.clone"], unfollowed := true, recurses := true, apart := false, narrowed := true }
def CheckpointRestoresUptoSaid : Prop := checkpointRestoresUptoRow.holds Try.pinned (OpenSpec.upto checkpointRestoresSpec)

end Rows
end Go.Proofs.Ytalnhdeckdakfaa
