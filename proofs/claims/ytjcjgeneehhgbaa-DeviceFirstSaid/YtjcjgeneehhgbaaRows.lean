/-
  No cell of these rows narrows 'for every input' (looked for: loops, veiled, ifaces, maps, wideKeys, modest, calm, conditions, laid).
  DERIVED. THE GIVEN ROWS OF THIS SEAT. 9 by the template 'for every input the law returns true; each argument reads behind the call as it read before'; 0 by the template 'total and deterministic' (their statements: YtjcjgeneehhgbaaTotals.lean).
  GIVEN WITH THE SEED: the statements are not yours to turn. If you find one false, say at which input.
  Laid BY PROGRAM, IN A SANDBOX (cutbox-rows.mjs): the forced cells as the released guide's own fill.sh prints them over the translation 63997a6a686078f3… (all of the seat's roots in one cut). By AI agents, Wed Nov 11 2026. No macro, syntax, notation, axiom, sorry.
-/
import Derived.Test.YtjcjgeneehhgbaaChecked
import GoSem.Claim
import GoSem.ClaimJoined
import GoSem.ClaimMapViews
import Derived.JoinedTies
import Derived.KernelRfl
namespace Go.Proofs.Ytjcjgeneehhgbaa
/- THE CELL 'sum', in the pinned program and in every row, IS THE sha256 OF THE DUMP (.gsa) THAT YtjcjgeneehhgbaaProg.lean LOADS. Nothing in Lean hashes anything: it is a label: what it is worth is what the hold of that sum in a sandbox is worth. -/
noncomputable def Try.pinned : Pinned := { name := "ytjcjgeneehhgbaa", sum := "63997a6a686078f3d984f4a46071c10ec6f204ff96fca0b25740c32912f739f3", checked := Try.checked }
namespace Rows
def none {H : Type} : Left H := { results := [], args := [] }

/-- 'stockyardlaw30.DeviceTorn': WHATEVER THE INPUT: true; the input reads as it did. -/
def deviceTornSpec : ChangeSpec := { name := "deviceTorn", fn := fun _ => fun
  | [d1, d2, d3, d4] => { results := [.lit (.bool true)], args := [d1, d2, d3, d4] }
  | _ => none }
def deviceTornRow : OpenClaim := { program := "ytjcjgeneehhgbaa", sum := "63997a6a686078f3d984f4a46071c10ec6f204ff96fca0b25740c32912f739f3", func := "stockyard/stockyardlaw30.DeviceTorn", spec := "deviceTorn", inPlace := ["maps.clone"], unfollowed := true, recurses := true, apart := false }
def DeviceTornSaid : Prop := deviceTornRow.holds Try.pinned (OpenSpec.ofChange deviceTornSpec)

/-- ITS FALSE NEIGHBOUR: 'it returns false'. Refute it at one input. -/
def deviceTornWrong : ChangeSpec := { name := "deviceTorn", fn := fun _ => fun
  | [d1, d2, d3, d4] => { results := [.lit (.bool false)], args := [d1, d2, d3, d4] }
  | _ => none }
def DeviceTornWrongFalsely : Prop := deviceTornRow.holds Try.pinned (OpenSpec.ofChange deviceTornWrong)

/-- 'stockyardlaw30.DeviceFuse': WHATEVER THE INPUT: true; the input reads as it did. -/
def deviceFuseSpec : ChangeSpec := { name := "deviceFuse", fn := fun _ => fun
  | [d1, d2] => { results := [.lit (.bool true)], args := [d1, d2] }
  | _ => none }
def deviceFuseRow : OpenClaim := { program := "ytjcjgeneehhgbaa", sum := "63997a6a686078f3d984f4a46071c10ec6f204ff96fca0b25740c32912f739f3", func := "stockyard/stockyardlaw30.DeviceFuse", spec := "deviceFuse", inPlace := ["maps.clone"], unfollowed := true, recurses := true, apart := false }
def DeviceFuseSaid : Prop := deviceFuseRow.holds Try.pinned (OpenSpec.ofChange deviceFuseSpec)

/-- ITS FALSE NEIGHBOUR: 'it returns false'. Refute it at one input. -/
def deviceFuseWrong : ChangeSpec := { name := "deviceFuse", fn := fun _ => fun
  | [d1, d2] => { results := [.lit (.bool false)], args := [d1, d2] }
  | _ => none }
def DeviceFuseWrongFalsely : Prop := deviceFuseRow.holds Try.pinned (OpenSpec.ofChange deviceFuseWrong)

/-- 'stockyardlaw30.DeviceFlips': WHATEVER THE INPUT: true; the input reads as it did. -/
def deviceFlipsSpec : ChangeSpec := { name := "deviceFlips", fn := fun _ => fun
  | [d1, d2, d3] => { results := [.lit (.bool true)], args := [d1, d2, d3] }
  | _ => none }
def deviceFlipsRow : OpenClaim := { program := "ytjcjgeneehhgbaa", sum := "63997a6a686078f3d984f4a46071c10ec6f204ff96fca0b25740c32912f739f3", func := "stockyard/stockyardlaw30.DeviceFlips", spec := "deviceFlips", inPlace := ["maps.clone"], unfollowed := true, recurses := true, apart := false }
def DeviceFlipsSaid : Prop := deviceFlipsRow.holds Try.pinned (OpenSpec.ofChange deviceFlipsSpec)

/-- ITS FALSE NEIGHBOUR: 'it returns false'. Refute it at one input. -/
def deviceFlipsWrong : ChangeSpec := { name := "deviceFlips", fn := fun _ => fun
  | [d1, d2, d3] => { results := [.lit (.bool false)], args := [d1, d2, d3] }
  | _ => none }
def DeviceFlipsWrongFalsely : Prop := deviceFlipsRow.holds Try.pinned (OpenSpec.ofChange deviceFlipsWrong)

/-- 'stockyardlaw30.DeviceKeeps': WHATEVER THE INPUT: true; the input reads as it did. -/
def deviceKeepsSpec : ChangeSpec := { name := "deviceKeeps", fn := fun _ => fun
  | [d1, d2] => { results := [.lit (.bool true)], args := [d1, d2] }
  | _ => none }
def deviceKeepsRow : OpenClaim := { program := "ytjcjgeneehhgbaa", sum := "63997a6a686078f3d984f4a46071c10ec6f204ff96fca0b25740c32912f739f3", func := "stockyard/stockyardlaw30.DeviceKeeps", spec := "deviceKeeps", inPlace := ["maps.clone"], unfollowed := true, recurses := true, apart := false }
def DeviceKeepsSaid : Prop := deviceKeepsRow.holds Try.pinned (OpenSpec.ofChange deviceKeepsSpec)

/-- ITS FALSE NEIGHBOUR: 'it returns false'. Refute it at one input. -/
def deviceKeepsWrong : ChangeSpec := { name := "deviceKeeps", fn := fun _ => fun
  | [d1, d2] => { results := [.lit (.bool false)], args := [d1, d2] }
  | _ => none }
def DeviceKeepsWrongFalsely : Prop := deviceKeepsRow.holds Try.pinned (OpenSpec.ofChange deviceKeepsWrong)

/-- 'stockyardlaw30.DeviceNames': WHATEVER THE INPUT: true; the input reads as it did. -/
def deviceNamesSpec : ChangeSpec := { name := "deviceNames", fn := fun _ => fun
  | [d1, d2] => { results := [.lit (.bool true)], args := [d1, d2] }
  | _ => none }
def deviceNamesRow : OpenClaim := { program := "ytjcjgeneehhgbaa", sum := "63997a6a686078f3d984f4a46071c10ec6f204ff96fca0b25740c32912f739f3", func := "stockyard/stockyardlaw30.DeviceNames", spec := "deviceNames", inPlace := ["maps.clone"], unfollowed := true, recurses := true, apart := false }
def DeviceNamesSaid : Prop := deviceNamesRow.holds Try.pinned (OpenSpec.ofChange deviceNamesSpec)

/-- ITS FALSE NEIGHBOUR: 'it returns false'. Refute it at one input. -/
def deviceNamesWrong : ChangeSpec := { name := "deviceNames", fn := fun _ => fun
  | [d1, d2] => { results := [.lit (.bool false)], args := [d1, d2] }
  | _ => none }
def DeviceNamesWrongFalsely : Prop := deviceNamesRow.holds Try.pinned (OpenSpec.ofChange deviceNamesWrong)

/-- 'stockyardlaw30.DeviceFull': WHATEVER THE INPUT: true; the input reads as it did. -/
def deviceFullSpec : ChangeSpec := { name := "deviceFull", fn := fun _ => fun
  | [d] => { results := [.lit (.bool true)], args := [d] }
  | _ => none }
def deviceFullRow : OpenClaim := { program := "ytjcjgeneehhgbaa", sum := "63997a6a686078f3d984f4a46071c10ec6f204ff96fca0b25740c32912f739f3", func := "stockyard/stockyardlaw30.DeviceFull", spec := "deviceFull", inPlace := ["maps.clone"], unfollowed := true, recurses := true, apart := false }
def DeviceFullSaid : Prop := deviceFullRow.holds Try.pinned (OpenSpec.ofChange deviceFullSpec)

/-- ITS FALSE NEIGHBOUR: 'it returns false'. Refute it at one input. -/
def deviceFullWrong : ChangeSpec := { name := "deviceFull", fn := fun _ => fun
  | [d] => { results := [.lit (.bool false)], args := [d] }
  | _ => none }
def DeviceFullWrongFalsely : Prop := deviceFullRow.holds Try.pinned (OpenSpec.ofChange deviceFullWrong)

/-- 'stockyardlaw30.DeviceFirst': WHATEVER THE INPUT: true; the input reads as it did. -/
def deviceFirstSpec : ChangeSpec := { name := "deviceFirst", fn := fun _ => fun
  | [d] => { results := [.lit (.bool true)], args := [d] }
  | _ => none }
def deviceFirstRow : OpenClaim := { program := "ytjcjgeneehhgbaa", sum := "63997a6a686078f3d984f4a46071c10ec6f204ff96fca0b25740c32912f739f3", func := "stockyard/stockyardlaw30.DeviceFirst", spec := "deviceFirst", inPlace := ["maps.clone"], unfollowed := true, recurses := true, apart := false }
def DeviceFirstSaid : Prop := deviceFirstRow.holds Try.pinned (OpenSpec.ofChange deviceFirstSpec)

/-- ITS FALSE NEIGHBOUR: 'it returns false'. Refute it at one input. -/
def deviceFirstWrong : ChangeSpec := { name := "deviceFirst", fn := fun _ => fun
  | [d] => { results := [.lit (.bool false)], args := [d] }
  | _ => none }
def DeviceFirstWrongFalsely : Prop := deviceFirstRow.holds Try.pinned (OpenSpec.ofChange deviceFirstWrong)

/-- 'stockyardlaw30.DeviceCopies': WHATEVER THE INPUT: true; the input reads as it did. -/
def deviceCopiesSpec : ChangeSpec := { name := "deviceCopies", fn := fun _ => fun
  | [d] => { results := [.lit (.bool true)], args := [d] }
  | _ => none }
def deviceCopiesRow : OpenClaim := { program := "ytjcjgeneehhgbaa", sum := "63997a6a686078f3d984f4a46071c10ec6f204ff96fca0b25740c32912f739f3", func := "stockyard/stockyardlaw30.DeviceCopies", spec := "deviceCopies", inPlace := ["maps.clone"], unfollowed := true, recurses := true, apart := false }
def DeviceCopiesSaid : Prop := deviceCopiesRow.holds Try.pinned (OpenSpec.ofChange deviceCopiesSpec)

/-- ITS FALSE NEIGHBOUR: 'it returns false'. Refute it at one input. -/
def deviceCopiesWrong : ChangeSpec := { name := "deviceCopies", fn := fun _ => fun
  | [d] => { results := [.lit (.bool false)], args := [d] }
  | _ => none }
def DeviceCopiesWrongFalsely : Prop := deviceCopiesRow.holds Try.pinned (OpenSpec.ofChange deviceCopiesWrong)

/-- 'stockyardlaw30.DevicePlays': WHATEVER THE INPUT: true; the input reads as it did. -/
def devicePlaysSpec : ChangeSpec := { name := "devicePlays", fn := fun _ => fun
  | [d] => { results := [.lit (.bool true)], args := [d] }
  | _ => none }
def devicePlaysRow : OpenClaim := { program := "ytjcjgeneehhgbaa", sum := "63997a6a686078f3d984f4a46071c10ec6f204ff96fca0b25740c32912f739f3", func := "stockyard/stockyardlaw30.DevicePlays", spec := "devicePlays", inPlace := ["maps.clone"], unfollowed := true, recurses := true, apart := false }
def DevicePlaysSaid : Prop := devicePlaysRow.holds Try.pinned (OpenSpec.ofChange devicePlaysSpec)

/-- ITS FALSE NEIGHBOUR: 'it returns false'. Refute it at one input. -/
def devicePlaysWrong : ChangeSpec := { name := "devicePlays", fn := fun _ => fun
  | [d] => { results := [.lit (.bool false)], args := [d] }
  | _ => none }
def DevicePlaysWrongFalsely : Prop := devicePlaysRow.holds Try.pinned (OpenSpec.ofChange devicePlaysWrong)

/- THE SECOND FORM. 'bulk': how many values and letters a reading holds, each counted each time it is reached (what is shared counts as often as it is met; a slice's spare places count too). A statement '..UptoSaid' is the law's where the arguments, and the package variables that the reading takes, are together of bulk at most 1048576: NARROWER than '..Said'. Prove '..Said' where nothing that the law and all that it calls make is longer than what came in: it says more and counts as full. Else prove '..UptoSaid'. A law counts once. -/
mutual
def uptoBulk {H : Type} : DataW H → Nat
  | .lit (.string bytes) => bytes.length + 1
  | .lit _ => 1
  | .nil => 1
  | .ptr d => uptoBulk d + 1
  | .slice elems spare => uptoBulkAll elems + uptoBulkAll spare + 1
  | .agg parts => uptoBulkAll parts + 1
  | .iface _ d => uptoBulk d + 1
  | .map entries => uptoBulkEntries entries + 1
  | .held _ => 1
def uptoBulkAll {H : Type} : List (DataW H) → Nat
  | [] => 0
  | d :: r => uptoBulk d + uptoBulkAll r
def uptoBulkEntries {H : Type} : List (Lit × DataW H) → Nat
  | [] => 0
  | x :: r => uptoBulkEntry x + uptoBulkEntries r
def uptoBulkEntry {H : Type} : Lit × DataW H → Nat
  | (.string bytes, d) => bytes.length + uptoBulk d + 1
  | (_, d) => uptoBulk d + 1
 end
def uptoSmall : (H : Type) → List (DataW H) → Bool := fun _ ds => decide (uptoBulkAll ds ≤ 1048576)
def OpenSpec.upto (s : _root_.Go.ChangeSpec) : _root_.Go.OpenSpec := { _root_.Go.OpenSpec.ofChange s with cond := some uptoSmall }

/-- 'stockyardlaw30.DeviceTorn', WHERE WHAT IT READS IS OF BULK AT MOST 1048576: true; the input reads as it did. -/
def deviceTornUptoRow : OpenClaim := { program := "ytjcjgeneehhgbaa", sum := "63997a6a686078f3d984f4a46071c10ec6f204ff96fca0b25740c32912f739f3", func := "stockyard/stockyardlaw30.DeviceTorn", spec := "deviceTorn", inPlace := ["maps.clone"], unfollowed := true, recurses := true, apart := false, narrowed := true }
def DeviceTornUptoSaid : Prop := deviceTornUptoRow.holds Try.pinned (OpenSpec.upto deviceTornSpec)

/-- 'stockyardlaw30.DeviceFuse', WHERE WHAT IT READS IS OF BULK AT MOST 1048576: true; the input reads as it did. -/
def deviceFuseUptoRow : OpenClaim := { program := "ytjcjgeneehhgbaa", sum := "63997a6a686078f3d984f4a46071c10ec6f204ff96fca0b25740c32912f739f3", func := "stockyard/stockyardlaw30.DeviceFuse", spec := "deviceFuse", inPlace := ["maps.clone"], unfollowed := true, recurses := true, apart := false, narrowed := true }
def DeviceFuseUptoSaid : Prop := deviceFuseUptoRow.holds Try.pinned (OpenSpec.upto deviceFuseSpec)

/-- 'stockyardlaw30.DeviceFlips', WHERE WHAT IT READS IS OF BULK AT MOST 1048576: true; the input reads as it did. -/
def deviceFlipsUptoRow : OpenClaim := { program := "ytjcjgeneehhgbaa", sum := "63997a6a686078f3d984f4a46071c10ec6f204ff96fca0b25740c32912f739f3", func := "stockyard/stockyardlaw30.DeviceFlips", spec := "deviceFlips", inPlace := ["maps.clone"], unfollowed := true, recurses := true, apart := false, narrowed := true }
def DeviceFlipsUptoSaid : Prop := deviceFlipsUptoRow.holds Try.pinned (OpenSpec.upto deviceFlipsSpec)

/-- 'stockyardlaw30.DeviceKeeps', WHERE WHAT IT READS IS OF BULK AT MOST 1048576: true; the input reads as it did. -/
def deviceKeepsUptoRow : OpenClaim := { program := "ytjcjgeneehhgbaa", sum := "63997a6a686078f3d984f4a46071c10ec6f204ff96fca0b25740c32912f739f3", func := "stockyard/stockyardlaw30.DeviceKeeps", spec := "deviceKeeps", inPlace := ["maps.clone"], unfollowed := true, recurses := true, apart := false, narrowed := true }
def DeviceKeepsUptoSaid : Prop := deviceKeepsUptoRow.holds Try.pinned (OpenSpec.upto deviceKeepsSpec)

/-- 'stockyardlaw30.DeviceNames', WHERE WHAT IT READS IS OF BULK AT MOST 1048576: true; the input reads as it did. -/
def deviceNamesUptoRow : OpenClaim := { program := "ytjcjgeneehhgbaa", sum := "63997a6a686078f3d984f4a46071c10ec6f204ff96fca0b25740c32912f739f3", func := "stockyard/stockyardlaw30.DeviceNames", spec := "deviceNames", inPlace := ["maps.clone"], unfollowed := true, recurses := true, apart := false, narrowed := true }
def DeviceNamesUptoSaid : Prop := deviceNamesUptoRow.holds Try.pinned (OpenSpec.upto deviceNamesSpec)

/-- 'stockyardlaw30.DeviceFull', WHERE WHAT IT READS IS OF BULK AT MOST 1048576: true; the input reads as it did. -/
def deviceFullUptoRow : OpenClaim := { program := "ytjcjgeneehhgbaa", sum := "63997a6a686078f3d984f4a46071c10ec6f204ff96fca0b25740c32912f739f3", func := "stockyard/stockyardlaw30.DeviceFull", spec := "deviceFull", inPlace := ["maps.clone"], unfollowed := true, recurses := true, apart := false, narrowed := true }
def DeviceFullUptoSaid : Prop := deviceFullUptoRow.holds Try.pinned (OpenSpec.upto deviceFullSpec)

/-- 'stockyardlaw30.DeviceFirst', WHERE WHAT IT READS IS OF BULK AT MOST 1048576: true; the input reads as it did. -/
def deviceFirstUptoRow : OpenClaim := { program := "ytjcjgeneehhgbaa", sum := "63997a6a686078f3d984f4a46071c10ec6f204ff96fca0b25740c32912f739f3", func := "stockyard/stockyardlaw30.DeviceFirst", spec := "deviceFirst", inPlace := ["maps.clone"], unfollowed := true, recurses := true, apart := false, narrowed := true }
def DeviceFirstUptoSaid : Prop := deviceFirstUptoRow.holds Try.pinned (OpenSpec.upto deviceFirstSpec)

/-- 'stockyardlaw30.DeviceCopies', WHERE WHAT IT READS IS OF BULK AT MOST 1048576: true; the input reads as it did. -/
def deviceCopiesUptoRow : OpenClaim := { program := "ytjcjgeneehhgbaa", sum := "63997a6a686078f3d984f4a46071c10ec6f204ff96fca0b25740c32912f739f3", func := "stockyard/stockyardlaw30.DeviceCopies", spec := "deviceCopies", inPlace := ["maps.clone"], unfollowed := true, recurses := true, apart := false, narrowed := true }
def DeviceCopiesUptoSaid : Prop := deviceCopiesUptoRow.holds Try.pinned (OpenSpec.upto deviceCopiesSpec)

/-- 'stockyardlaw30.DevicePlays', WHERE WHAT IT READS IS OF BULK AT MOST 1048576: true; the input reads as it did. -/
def devicePlaysUptoRow : OpenClaim := { program := "ytjcjgeneehhgbaa", sum := "63997a6a686078f3d984f4a46071c10ec6f204ff96fca0b25740c32912f739f3", func := "stockyard/stockyardlaw30.DevicePlays", spec := "devicePlays", inPlace := ["maps.clone"], unfollowed := true, recurses := true, apart := false, narrowed := true }
def DevicePlaysUptoSaid : Prop := devicePlaysUptoRow.holds Try.pinned (OpenSpec.upto devicePlaysSpec)

end Rows
end Go.Proofs.Ytjcjgeneehhgbaa
