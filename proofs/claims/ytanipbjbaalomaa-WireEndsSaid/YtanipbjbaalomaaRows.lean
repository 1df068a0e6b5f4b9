/-
  No cell of these rows narrows 'for every input' (looked for: loops, veiled, ifaces, maps, wideKeys, modest, calm, conditions, laid).
  DERIVED. THE GIVEN ROWS OF THIS SEAT. 14 by the template 'for every input the law returns true; each argument reads behind the call as it read before'; 0 by the template 'total and deterministic' (their statements: YtanipbjbaalomaaTotals.lean).
  GIVEN WITH THE SEED: the statements are not yours to turn. If you find one false, say at which input.
  Laid BY PROGRAM, IN A SANDBOX (cutbox-rows.mjs): the forced cells as the released guide's own fill.sh prints them over the translation eb05f451922e0aff… (all of the seat's roots in one cut). By AI agents, Wed Nov 11 2026. No macro, syntax, notation, axiom, sorry.
-/
import Derived.Test.YtanipbjbaalomaaChecked
import GoSem.Claim
import GoSem.ClaimJoined
import GoSem.ClaimMapViews
import Derived.JoinedTies
import Derived.KernelRfl
namespace Go.Proofs.Ytanipbjbaalomaa
/- THE CELL 'sum', in the pinned program and in every row, IS THE sha256 OF THE DUMP (.gsa) THAT YtanipbjbaalomaaProg.lean LOADS. Nothing in Lean hashes anything: it is a label: what it is worth is what the hold of that sum in a sandbox is worth. -/
noncomputable def Try.pinned : Pinned := { name := "ytanipbjbaalomaa", sum := "eb05f451922e0aff571a3dce632fdf02c7f33d537d4af58da59104c5e3e3e974", checked := Try.checked }
namespace Rows
def none {H : Type} : Left H := { results := [], args := [] }

/-- 'slotmeshlaw04.WireMatchesReference': WHATEVER THE INPUT: true; the input reads as it did. -/
def wireMatchesReferenceSpec : ChangeSpec := { name := "wireMatchesReference", fn := fun _ => fun
  | [d1, d2, d3, d4, d5] => { results := [.lit (.bool true)], args := [d1, d2, d3, d4, d5] }
  | _ => none }
def wireMatchesReferenceRow : OpenClaim := { program := "ytanipbjbaalomaa", sum := "eb05f451922e0aff571a3dce632fdf02c7f33d537d4af58da59104c5e3e3e974", func := "slotmesh/slotmeshlaw04.WireMatchesReference", spec := "wireMatchesReference", unfollowed := true, recurses := true, apart := false }
def WireMatchesReferenceSaid : Prop := wireMatchesReferenceRow.holds Try.pinned (OpenSpec.ofChange wireMatchesReferenceSpec)

/-- ITS FALSE NEIGHBOUR: 'it returns false'. Refute it at one input. -/
def wireMatchesReferenceWrong : ChangeSpec := { name := "wireMatchesReference", fn := fun _ => fun
  | [d1, d2, d3, d4, d5] => { results := [.lit (.bool false)], args := [d1, d2, d3, d4, d5] }
  | _ => none }
def WireMatchesReferenceWrongFalsely : Prop := wireMatchesReferenceRow.holds Try.pinned (OpenSpec.ofChange wireMatchesReferenceWrong)

/-- 'slotmeshlaw04.WireNumbers': WHATEVER THE INPUT: true; the input reads as it did. -/
def wireNumbersSpec : ChangeSpec := { name := "wireNumbers", fn := fun _ => fun
  | [d1, d2, d3, d4] => { results := [.lit (.bool true)], args := [d1, d2, d3, d4] }
  | _ => none }
def wireNumbersRow : OpenClaim := { program := "ytanipbjbaalomaa", sum := "eb05f451922e0aff571a3dce632fdf02c7f33d537d4af58da59104c5e3e3e974", func := "slotmesh/slotmeshlaw04.WireNumbers", spec := "wireNumbers", unfollowed := true, recurses := true, apart := false }
def WireNumbersSaid : Prop := wireNumbersRow.holds Try.pinned (OpenSpec.ofChange wireNumbersSpec)

/-- ITS FALSE NEIGHBOUR: 'it returns false'. Refute it at one input. -/
def wireNumbersWrong : ChangeSpec := { name := "wireNumbers", fn := fun _ => fun
  | [d1, d2, d3, d4] => { results := [.lit (.bool false)], args := [d1, d2, d3, d4] }
  | _ => none }
def WireNumbersWrongFalsely : Prop := wireNumbersRow.holds Try.pinned (OpenSpec.ofChange wireNumbersWrong)

/-- 'slotmeshlaw04.WireBytes': WHATEVER THE INPUT: true; the input reads as it did. -/
def wireBytesSpec : ChangeSpec := { name := "wireBytes", fn := fun _ => fun
  | [d1, d2, d3, d4] => { results := [.lit (.bool true)], args := [d1, d2, d3, d4] }
  | _ => none }
def wireBytesRow : OpenClaim := { program := "ytanipbjbaalomaa", sum := "eb05f451922e0aff571a3dce632fdf02c7f33d537d4af58da59104c5e3e3e974", func := "slotmesh/slotmeshlaw04.WireBytes", spec := "wireBytes", unfollowed := true, recurses := true, apart := false }
def WireBytesSaid : Prop := wireBytesRow.holds Try.pinned (OpenSpec.ofChange wireBytesSpec)

/-- ITS FALSE NEIGHBOUR: 'it returns false'. Refute it at one input. -/
def wireBytesWrong : ChangeSpec := { name := "wireBytes", fn := fun _ => fun
  | [d1, d2, d3, d4] => { results := [.lit (.bool false)], args := [d1, d2, d3, d4] }
  | _ => none }
def WireBytesWrongFalsely : Prop := wireBytesRow.holds Try.pinned (OpenSpec.ofChange wireBytesWrong)

/-- 'slotmeshlaw04.WireFrames': WHATEVER THE INPUT: true; the input reads as it did. -/
def wireFramesSpec : ChangeSpec := { name := "wireFrames", fn := fun _ => fun
  | [d1, d2] => { results := [.lit (.bool true)], args := [d1, d2] }
  | _ => none }
def wireFramesRow : OpenClaim := { program := "ytanipbjbaalomaa", sum := "eb05f451922e0aff571a3dce632fdf02c7f33d537d4af58da59104c5e3e3e974", func := "slotmesh/slotmeshlaw04.WireFrames", spec := "wireFrames", unfollowed := true, recurses := true, apart := false }
def WireFramesSaid : Prop := wireFramesRow.holds Try.pinned (OpenSpec.ofChange wireFramesSpec)

/-- ITS FALSE NEIGHBOUR: 'it returns false'. Refute it at one input. -/
def wireFramesWrong : ChangeSpec := { name := "wireFrames", fn := fun _ => fun
  | [d1, d2] => { results := [.lit (.bool false)], args := [d1, d2] }
  | _ => none }
def WireFramesWrongFalsely : Prop := wireFramesRow.holds Try.pinned (OpenSpec.ofChange wireFramesWrong)

/-- 'slotmeshlaw04.WireEnds': WHATEVER THE INPUT: true; the input reads as it did. -/
def wireEndsSpec : ChangeSpec := { name := "wireEnds", fn := fun _ => fun
  | [d1, d2, d3] => { results := [.lit (.bool true)], args := [d1, d2, d3] }
  | _ => none }
def wireEndsRow : OpenClaim := { program := "ytanipbjbaalomaa", sum := "eb05f451922e0aff571a3dce632fdf02c7f33d537d4af58da59104c5e3e3e974", func := "slotmesh/slotmeshlaw04.WireEnds", spec := "wireEnds", unfollowed := true, recurses := true, apart := false }
def WireEndsSaid : Prop := wireEndsRow.holds Try.pinned (OpenSpec.ofChange wireEndsSpec)

/-- ITS FALSE NEIGHBOUR: 'it returns false'. Refute it at one input. -/
def wireEndsWrong : ChangeSpec := { name := "wireEnds", fn := fun _ => fun
  | [d1, d2, d3] => { results := [.lit (.bool false)], args := [d1, d2, d3] }
  | _ => none }
def WireEndsWrongFalsely : Prop := wireEndsRow.holds Try.pinned (OpenSpec.ofChange wireEndsWrong)

/-- 'slotmeshlaw04.WireTwoFrames': WHATEVER THE INPUT: true; the input reads as it did. -/
def wireTwoFramesSpec : ChangeSpec := { name := "wireTwoFrames", fn := fun _ => fun
  | [d1, d2] => { results := [.lit (.bool true)], args := [d1, d2] }
  | _ => none }
def wireTwoFramesRow : OpenClaim := { program := "ytanipbjbaalomaa", sum := "eb05f451922e0aff571a3dce632fdf02c7f33d537d4af58da59104c5e3e3e974", func := "slotmesh/slotmeshlaw04.WireTwoFrames", spec := "wireTwoFrames", unfollowed := true, recurses := true, apart := false }
def WireTwoFramesSaid : Prop := wireTwoFramesRow.holds Try.pinned (OpenSpec.ofChange wireTwoFramesSpec)

/-- ITS FALSE NEIGHBOUR: 'it returns false'. Refute it at one input. -/
def wireTwoFramesWrong : ChangeSpec := { name := "wireTwoFrames", fn := fun _ => fun
  | [d1, d2] => { results := [.lit (.bool false)], args := [d1, d2] }
  | _ => none }
def WireTwoFramesWrongFalsely : Prop := wireTwoFramesRow.holds Try.pinned (OpenSpec.ofChange wireTwoFramesWrong)

/-- 'slotmeshlaw04.WireBeginnings': WHATEVER THE INPUT: true; the input reads as it did. -/
def wireBeginningsSpec : ChangeSpec := { name := "wireBeginnings", fn := fun _ => fun
  | [d1, d2, d3] => { results := [.lit (.bool true)], args := [d1, d2, d3] }
  | _ => none }
def wireBeginningsRow : OpenClaim := { program := "ytanipbjbaalomaa", sum := "eb05f451922e0aff571a3dce632fdf02c7f33d537d4af58da59104c5e3e3e974", func := "slotmesh/slotmeshlaw04.WireBeginnings", spec := "wireBeginnings", unfollowed := true, recurses := true, apart := false }
def WireBeginningsSaid : Prop := wireBeginningsRow.holds Try.pinned (OpenSpec.ofChange wireBeginningsSpec)

/-- ITS FALSE NEIGHBOUR: 'it returns false'. Refute it at one input. -/
def wireBeginningsWrong : ChangeSpec := { name := "wireBeginnings", fn := fun _ => fun
  | [d1, d2, d3] => { results := [.lit (.bool false)], args := [d1, d2, d3] }
  | _ => none }
def WireBeginningsWrongFalsely : Prop := wireBeginningsRow.holds Try.pinned (OpenSpec.ofChange wireBeginningsWrong)

/-- 'slotmeshlaw40.BeaconInverse': WHATEVER THE INPUT: true; the input reads as it did. -/
def beaconInverseSpec : ChangeSpec := { name := "beaconInverse", fn := fun _ => fun
  | [d1, d2] => { results := [.lit (.bool true)], args := [d1, d2] }
  | _ => none }
def beaconInverseRow : OpenClaim := { program := "ytanipbjbaalomaa", sum := "eb05f451922e0aff571a3dce632fdf02c7f33d537d4af58da59104c5e3e3e974", func := "slotmesh/slotmeshlaw40.BeaconInverse", spec := "beaconInverse", inPlace := ["slices.overlaps[slotmesh/api.Near]"], unfollowed := true, recurses := true, apart := false }
def BeaconInverseSaid : Prop := beaconInverseRow.holds Try.pinned (OpenSpec.ofChange beaconInverseSpec)

/-- ITS FALSE NEIGHBOUR: 'it returns false'. Refute it at one input. -/
def beaconInverseWrong : ChangeSpec := { name := "beaconInverse", fn := fun _ => fun
  | [d1, d2] => { results := [.lit (.bool false)], args := [d1, d2] }
  | _ => none }
def BeaconInverseWrongFalsely : Prop := beaconInverseRow.holds Try.pinned (OpenSpec.ofChange beaconInverseWrong)

/-- 'slotmeshlaw40.BeaconEnds': WHATEVER THE INPUT: true; the input reads as it did. -/
def beaconEndsSpec : ChangeSpec := { name := "beaconEnds", fn := fun _ => fun
  | [d1, d2, d3] => { results := [.lit (.bool true)], args := [d1, d2, d3] }
  | _ => none }
def beaconEndsRow : OpenClaim := { program := "ytanipbjbaalomaa", sum := "eb05f451922e0aff571a3dce632fdf02c7f33d537d4af58da59104c5e3e3e974", func := "slotmesh/slotmeshlaw40.BeaconEnds", spec := "beaconEnds", inPlace := ["slices.overlaps[slotmesh/api.Near]"], unfollowed := true, recurses := true, apart := false }
def BeaconEndsSaid : Prop := beaconEndsRow.holds Try.pinned (OpenSpec.ofChange beaconEndsSpec)

/-- ITS FALSE NEIGHBOUR: 'it returns false'. Refute it at one input. -/
def beaconEndsWrong : ChangeSpec := { name := "beaconEnds", fn := fun _ => fun
  | [d1, d2, d3] => { results := [.lit (.bool false)], args := [d1, d2, d3] }
  | _ => none }
def BeaconEndsWrongFalsely : Prop := beaconEndsRow.holds Try.pinned (OpenSpec.ofChange beaconEndsWrong)

/-- 'slotmeshlaw40.BeaconLast': WHATEVER THE INPUT: true; the input reads as it did. -/
def beaconLastSpec : ChangeSpec := { name := "beaconLast", fn := fun _ => fun
  | [d1, d2, d3, d4, d5] => { results := [.lit (.bool true)], args := [d1, d2, d3, d4, d5] }
  | _ => none }
def beaconLastRow : OpenClaim := { program := "ytanipbjbaalomaa", sum := "eb05f451922e0aff571a3dce632fdf02c7f33d537d4af58da59104c5e3e3e974", func := "slotmesh/slotmeshlaw40.BeaconLast", spec := "beaconLast", inPlace := ["slices.overlaps[slotmesh/api.Near]"], unfollowed := true, recurses := true, apart := false }
def BeaconLastSaid : Prop := beaconLastRow.holds Try.pinned (OpenSpec.ofChange beaconLastSpec)

/-- ITS FALSE NEIGHBOUR: 'it returns false'. Refute it at one input. -/
def beaconLastWrong : ChangeSpec := { name := "beaconLast", fn := fun _ => fun
  | [d1, d2, d3, d4, d5] => { results := [.lit (.bool false)], args := [d1, d2, d3, d4, d5] }
  | _ => none }
def BeaconLastWrongFalsely : Prop := beaconLastRow.holds Try.pinned (OpenSpec.ofChange beaconLastWrong)

/-- 'slotmeshlaw40.BeaconExpiring': WHATEVER THE INPUT: true; the input reads as it did. -/
def beaconExpiringSpec : ChangeSpec := { name := "beaconExpiring", fn := fun _ => fun
  | [d1, d2, d3] => { results := [.lit (.bool true)], args := [d1, d2, d3] }
  | _ => none }
def beaconExpiringRow : OpenClaim := { program := "ytanipbjbaalomaa", sum := "eb05f451922e0aff571a3dce632fdf02c7f33d537d4af58da59104c5e3e3e974", func := "slotmesh/slotmeshlaw40.BeaconExpiring", spec := "beaconExpiring", inPlace := ["slices.overlaps[slotmesh/api.Near]"], unfollowed := true, recurses := true, apart := false }
def BeaconExpiringSaid : Prop := beaconExpiringRow.holds Try.pinned (OpenSpec.ofChange beaconExpiringSpec)

/-- ITS FALSE NEIGHBOUR: 'it returns false'. Refute it at one input. -/
def beaconExpiringWrong : ChangeSpec := { name := "beaconExpiring", fn := fun _ => fun
  | [d1, d2, d3] => { results := [.lit (.bool false)], args := [d1, d2, d3] }
  | _ => none }
def BeaconExpiringWrongFalsely : Prop := beaconExpiringRow.holds Try.pinned (OpenSpec.ofChange beaconExpiringWrong)

/-- 'slotmeshlaw40.BeaconMatchesReference': WHATEVER THE INPUT: true; the input reads as it did. -/
def beaconMatchesReferenceSpec : ChangeSpec := { name := "beaconMatchesReference", fn := fun _ => fun
  | [d1, d2, d3, d4, d5] => { results := [.lit (.bool true)], args := [d1, d2, d3, d4, d5] }
  | _ => none }
def beaconMatchesReferenceRow : OpenClaim := { program := "ytanipbjbaalomaa", sum := "eb05f451922e0aff571a3dce632fdf02c7f33d537d4af58da59104c5e3e3e974", func := "slotmesh/slotmeshlaw40.BeaconMatchesReference", spec := "beaconMatchesReference", inPlace := ["slices.overlaps[slotmesh/api.Near]"], unfollowed := true, recurses := true, apart := false }
def BeaconMatchesReferenceSaid : Prop := beaconMatchesReferenceRow.holds Try.pinned (OpenSpec.ofChange beaconMatchesReferenceSpec)

/-- ITS FALSE NEIGHBOUR: 'it returns false'. Refute it at one input. -/
def beaconMatchesReferenceWrong : ChangeSpec := { name := "beaconMatchesReference", fn := fun _ => fun
  | [d1, d2, d3, d4, d5] => { results := [.lit (.bool false)], args := [d1, d2, d3, d4, d5] }
  | _ => none }
def BeaconMatchesReferenceWrongFalsely : Prop := beaconMatchesReferenceRow.holds Try.pinned (OpenSpec.ofChange beaconMatchesReferenceWrong)

/-- 'slotmeshlaw40.BeaconNoting': WHATEVER THE INPUT: true; the input reads as it did. -/
def beaconNotingSpec : ChangeSpec := { name := "beaconNoting", fn := fun _ => fun
  | [d1, d2, d3, d4] => { results := [.lit (.bool true)], args := [d1, d2, d3, d4] }
  | _ => none }
def beaconNotingRow : OpenClaim := { program := "ytanipbjbaalomaa", sum := "eb05f451922e0aff571a3dce632fdf02c7f33d537d4af58da59104c5e3e3e974", func := "slotmesh/slotmeshlaw40.BeaconNoting", spec := "beaconNoting", inPlace := ["slices.overlaps[slotmesh/api.Near]"], unfollowed := true, recurses := true, apart := false }
def BeaconNotingSaid : Prop := beaconNotingRow.holds Try.pinned (OpenSpec.ofChange beaconNotingSpec)

/-- ITS FALSE NEIGHBOUR: 'it returns false'. Refute it at one input. -/
def beaconNotingWrong : ChangeSpec := { name := "beaconNoting", fn := fun _ => fun
  | [d1, d2, d3, d4] => { results := [.lit (.bool false)], args := [d1, d2, d3, d4] }
  | _ => none }
def BeaconNotingWrongFalsely : Prop := beaconNotingRow.holds Try.pinned (OpenSpec.ofChange beaconNotingWrong)

/-- 'slotmeshlaw40.BeaconInFrame': WHATEVER THE INPUT: true; the input reads as it did. -/
def beaconInFrameSpec : ChangeSpec := { name := "beaconInFrame", fn := fun _ => fun
  | [d1, d2, d3] => { results := [.lit (.bool true)], args := [d1, d2, d3] }
  | _ => none }
def beaconInFrameRow : OpenClaim := { program := "ytanipbjbaalomaa", sum := "eb05f451922e0aff571a3dce632fdf02c7f33d537d4af58da59104c5e3e3e974", func := "slotmesh/slotmeshlaw40.BeaconInFrame", spec := "beaconInFrame", inPlace := ["slices.overlaps[slotmesh/api.Near]"], unfollowed := true, recurses := true, apart := false }
def BeaconInFrameSaid : Prop := beaconInFrameRow.holds Try.pinned (OpenSpec.ofChange beaconInFrameSpec)

/-- ITS FALSE NEIGHBOUR: 'it returns false'. Refute it at one input. -/
def beaconInFrameWrong : ChangeSpec := { name := "beaconInFrame", fn := fun _ => fun
  | [d1, d2, d3] => { results := [.lit (.bool false)], args := [d1, d2, d3] }
  | _ => none }
def BeaconInFrameWrongFalsely : Prop := beaconInFrameRow.holds Try.pinned (OpenSpec.ofChange beaconInFrameWrong)

/- THE SECOND FORM. 'bulk': how many values and letters a reading holds, each counted each time it is reached (what is shared counts as often as it is met; a slice's spare places count too). A statement '..UptoSaid' is the law's where the arguments, and the package variables that the reading takes, are together of bulk at most 1048576: NARROWER than '..Said'. Prove '..Said' where nothing that the law and all that it calls make is longer than what came in: it says more and counts as full. Else prove '..UptoSaid'. A law counts once. -/
mutual
def uptoBulk {H : Type} : DataW H → Nat
  | .lit (.string bytes) => bytes.length + 1
  | .lit _ => 1
  | .nil => 1
  | .ptr d => uptoBulk d + 1
  | .slice elems spare => uptoBulkAll elems + uptoBulkAll spare + 1
  | .agg parts => uptoBulkAll parts + 1
  | .iface _ d => uptoBulk d + 1
  | .map entries => uptoBulkEntries entries + 1
  | .held _ => 1
def uptoBulkAll {H : Type} : List (DataW H) → Nat
  | [] => 0
  | d :: r => uptoBulk d + uptoBulkAll r
def uptoBulkEntries {H : Type} : List (Lit × DataW H) → Nat
  | [] => 0
  | x :: r => uptoBulkEntry x + uptoBulkEntries r
def uptoBulkEntry {H : Type} : Lit × DataW H → Nat
  | (.string bytes, d) => bytes.length + uptoBulk d + 1
  | (_, d) => uptoBulk d + 1
 end
def uptoSmall : (H : Type) → List (DataW H) → Bool := fun _ ds => decide (uptoBulkAll ds ≤ 1048576)
def OpenSpec.upto (s : _root_.Go.ChangeSpec) : _root_.Go.OpenSpec := { _root_.Go.OpenSpec.ofChange s with cond := some uptoSmall }

/-- 'slotmeshlaw04.WireMatchesReference', WHERE WHAT IT READS IS OF BULK AT MOST 1048576: true; the input reads as it did. -/
def wireMatchesReferenceUptoRow : OpenClaim := { program := "ytanipbjbaalomaa", sum := "eb05f451922e0aff571a3dce632fdf02c7f33d537d4af58da59104c5e3e3e974", func := "slotmesh/slotmeshlaw04.WireMatchesReference", spec := "wireMatchesReference", unfollowed := true, recurses := true, apart := false, narrowed := true }
def WireMatchesReferenceUptoSaid : Prop := wireMatchesReferenceUptoRow.holds Try.pinned (OpenSpec.upto wireMatchesReferenceSpec)

/-- 'slotmeshlaw04.WireNumbers', WHERE WHAT IT READS IS OF BULK AT MOST 1048576: true; the input reads as it did. -/
def wireNumbersUptoRow : OpenClaim := { program := "ytanipbjbaalomaa", sum := "eb05f451922e0aff571a3dce632fdf02c7f33d537d4af58da59104c5e3e3e974", func := "slotmesh/slotmeshlaw04.WireNumbers", spec := "wireNumbers", unfollowed := true, recurses := true, apart := false, narrowed := true }
def WireNumbersUptoSaid : Prop := wireNumbersUptoRow.holds Try.pinned (OpenSpec.upto wireNumbersSpec)

/-- 'slotmeshlaw04.WireBytes', WHERE WHAT IT READS IS OF BULK AT MOST 1048576: true; the input reads as it did. -/
def wireBytesUptoRow : OpenClaim := { program := "ytanipbjbaalomaa", sum := "eb05f451922e0aff571a3dce632fdf02c7f33d537d4af58da59104c5e3e3e974", func := "slotmesh/slotmeshlaw04.WireBytes", spec := "wireBytes", unfollowed := true, recurses := true, apart := false, narrowed := true }
def WireBytesUptoSaid : Prop := wireBytesUptoRow.holds Try.pinned (OpenSpec.upto wireBytesSpec)

/-- 'slotmeshlaw04.WireFrames', WHERE WHAT IT READS IS OF BULK AT MOST 1048576: true; the input reads as it did. -/
def wireFramesUptoRow : OpenClaim := { program := "ytanipbjbaalomaa", sum := "eb05f451922e0aff571a3dce632fdf02c7f33d537d4af58da59104c5e3e3e974", func := "slotmesh/slotmeshlaw04.WireFrames", spec := "wireFrames", unfollowed := true, recurses := true, apart := false, narrowed := true }
def WireFramesUptoSaid : Prop := wireFramesUptoRow.holds Try.pinned (OpenSpec.upto wireFramesSpec)

/-- 'slotmeshlaw04.WireEnds', WHERE WHAT IT READS IS OF BULK AT MOST 1048576: true; the input reads as it did. -/
def wireEndsUptoRow : OpenClaim := { program := "ytanipbjbaalomaa", sum := "eb05f451922e0aff571a3dce632fdf02c7f33d537d4af58da59104c5e3e3e974", func := "slotmesh/slotmeshlaw04.WireEnds", spec := "wireEnds", unfollowed := true, recurses := true, apart := false, narrowed := true }
def WireEndsUptoSaid : Prop := wireEndsUptoRow.holds Try.pinned (OpenSpec.upto wireEndsSpec)

/-- 'slotmeshlaw04.WireTwoFrames', WHERE WHAT IT READS IS OF BULK AT MOST 1048576: true; the input reads as it did. -/
def wireTwoFramesUptoRow : OpenClaim := { program := "ytanipbjbaalomaa", sum := "eb05f451922e0aff571a3dce632fdf02c7f33d537d4af58da59104c5e3e3e974", func := "slotmesh/slotmeshlaw04.WireTwoFrames", spec := "wireTwoFrames", unfollowed := true, recurses := true, apart := false, narrowed := true }
def WireTwoFramesUptoSaid : Prop := wireTwoFramesUptoRow.holds Try.pinned (OpenSpec.upto wireTwoFramesSpec)

/-- 'slotmeshlaw04.WireBeginnings', WHERE WHAT IT READS IS OF BULK AT MOST 1048576: true; the input reads as it did. -/
def wireBeginningsUptoRow : OpenClaim := { program := "ytanipbjbaalomaa", sum := "eb05f451922e0aff571a3dce632fdf02c7f33d537d4af58da59104c5e3e3e974", func := "slotmesh/slotmeshlaw04.WireBeginnings", spec := "wireBeginnings", unfollowed := true, recurses := true, apart := false, narrowed := true }
def WireBeginningsUptoSaid : Prop := wireBeginningsUptoRow.holds Try.pinned (OpenSpec.upto wireBeginningsSpec)

/-- 'slotmeshlaw40.BeaconInverse', WHERE WHAT IT READS IS OF BULK AT MOST 1048576: true; the input reads as it did. -/
def beaconInverseUptoRow : OpenClaim := { program := "ytanipbjbaalomaa", sum := "eb05f451922e0aff571a3dce632fdf02c7f33d537d4af58da59104c5e3e3e974", func := "slotmesh/slotmeshlaw40.BeaconInverse", spec := "beaconInverse", inPlace := ["slices.overlaps[slotmesh/api.Near]"], unfollowed := true, recurses := true, apart := false, narrowed := true }
def BeaconInverseUptoSaid : Prop := beaconInverseUptoRow.holds Try.pinned (OpenSpec.upto beaconInverseSpec)

/-- 'slotmeshlaw40.BeaconEnds', WHERE WHAT IT READS IS OF BULK AT MOST 1048576: true; the input reads as it did. -/
def beaconEndsUptoRow : OpenClaim := { program := "ytanipbjbaalomaa", sum := "eb05f451922e0aff571a3dce632fdf02c7f33d537d4af58da59104c5e3e3e974", func := "slotmesh/slotmeshlaw40.BeaconEnds", spec := "beaconEnds", inPlace := ["slices.overlaps[slotmesh/api.Near]"], unfollowed := true, recurses := true, apart := false, narrowed := true }
def BeaconEndsUptoSaid : Prop := beaconEndsUptoRow.holds Try.pinned (OpenSpec.upto beaconEndsSpec)

/-- 'slotmeshlaw40.BeaconLast', WHERE WHAT IT READS IS OF BULK AT MOST 1048576: true; the input reads as it did. -/
def beaconLastUptoRow : OpenClaim := { program := "ytanipbjbaalomaa", sum := "eb05f451922e0aff571a3dce632fdf02c7f33d537d4af58da59104c5e3e3e974", func := "slotmesh/slotmeshlaw40.BeaconLast", spec := "beaconLast", inPlace := ["slices.overlaps[slotmesh/api.Near]"], unfollowed := true, recurses := true, apart := false, narrowed := true }
def BeaconLastUptoSaid : Prop := beaconLastUptoRow.holds Try.pinned (OpenSpec.upto beaconLastSpec)

/-- 'slotmeshlaw40.BeaconExpiring', WHERE WHAT IT READS IS OF BULK AT MOST 1048576: true; the input reads as it did. -/
def beaconExpiringUptoRow : OpenClaim := { program := "ytanipbjbaalomaa", sum := "eb05f451922e0aff571a3dce632fdf02c7f33d537d4af58da59104c5e3e3e974", func := "slotmesh/slotmeshlaw40.BeaconExpiring", spec := "beaconExpiring", inPlace := ["slices.overlaps[slotmesh/api.Near]"], unfollowed := true, recurses := true, apart := false, narrowed := true }
def BeaconExpiringUptoSaid : Prop := beaconExpiringUptoRow.holds Try.pinned (OpenSpec.upto beaconExpiringSpec)

/-- 'slotmeshlaw40.BeaconMatchesReference', WHERE WHAT IT READS IS OF BULK AT MOST 1048576: true; the input reads as it did. -/
def beaconMatchesReferenceUptoRow : OpenClaim := { program := "ytanipbjbaalomaa", sum := "eb05f451922e0aff571a3dce632fdf02c7f33d537d4af58da59104c5e3e3e974", func := "slotmesh/slotmeshlaw40.BeaconMatchesReference", spec := "beaconMatchesReference", inPlace := ["slices.overlaps[slotmesh/api.Near]"], unfollowed := true, recurses := true, apart := false, narrowed := true }
def BeaconMatchesReferenceUptoSaid : Prop := beaconMatchesReferenceUptoRow.holds Try.pinned (OpenSpec.upto beaconMatchesReferenceSpec)

/-- 'slotmeshlaw40.BeaconNoting', WHERE WHAT IT READS IS OF BULK AT MOST 1048576: true; the input reads as it did. -/
def beaconNotingUptoRow : OpenClaim := { program := "ytanipbjbaalomaa", sum := "eb05f451922e0aff571a3dce632fdf02c7f33d537d4af58da59104c5e3e3e974", func := "slotmesh/slotmeshlaw40.BeaconNoting", spec := "beaconNoting", inPlace := ["slices.overlaps[slotmesh/api.Near]"], unfollowed := true, recurses := true, apart := false, narrowed := true }
def BeaconNotingUptoSaid : Prop := beaconNotingUptoRow.holds Try.pinned (OpenSpec.upto beaconNotingSpec)

/-- 'slotmeshlaw40.BeaconInFrame', WHERE WHAT IT READS IS OF BULK AT MOST 1048576: true; the input reads as it did. -/
def beaconInFrameUptoRow : OpenClaim := { program := "ytanipbjbaalomaa", sum := "eb05f451922e0aff571a3dce632fdf02c7f33d537d4af58da59104c5e3e3e974", func := "slotmesh/slotmeshlaw40.BeaconInFrame", spec := "beaconInFrame", inPlace := ["slices.overlaps[slotmesh/api.Near]"], unfollowed := true, recurses := true, apart := false, narrowed := true }
def BeaconInFrameUptoSaid : Prop := beaconInFrameUptoRow.holds Try.pinned (OpenSpec.upto beaconInFrameSpec)

end Rows
end Go.Proofs.Ytanipbjbaalomaa
