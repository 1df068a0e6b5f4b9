/-
  No cell of these rows narrows 'for every input' (looked for: loops, veiled, ifaces, maps, wideKeys, modest, calm, conditions, laid).
  DERIVED. THE GIVEN ROWS OF THIS SEAT. 6 by the template 'for every input the law returns true; each argument reads behind the call as it read before'; 0 by the template 'total and deterministic' (their statements: YtjibgfihfbdcaaaTotals.lean).
  GIVEN WITH THE SEED: the statements are not yours to turn. If you find one false, say at which input.
  Laid BY PROGRAM, IN A SANDBOX (cutbox-rows.mjs): the forced cells as the released guide's own fill.sh prints them over the translation 6784db7f13afd5eb… (all of the seat's roots in one cut). By AI agents, Wed Nov 11 2026. No macro, syntax, notation, axiom, sorry.
-/
import Derived.Test.YtjibgfihfbdcaaaChecked
import GoSem.Claim
import GoSem.ClaimJoined
import GoSem.ClaimMapViews
import Derived.JoinedTies
import Derived.KernelRfl
namespace Go.Proofs.Ytjibgfihfbdcaaa
/- THE CELL 'sum', in the pinned program and in every row, IS THE sha256 OF THE DUMP (.gsa) THAT YtjibgfihfbdcaaaProg.lean LOADS. Nothing in Lean hashes anything: it is a label: what it is worth is what the hold of that sum in a sandbox is worth. -/
noncomputable def Try.pinned : Pinned := { name := "ytjibgfihfbdcaaa", sum := "6784db7f13afd5eb53f221fe3376c1f71bba00214a374d86e057f9f416055ecd", checked := Try.checked }
namespace Rows
def none {H : Type} : Left H := { results := [], args := [] }

/-- 'slotmeshlaw26.SeenMatchesReference': WHATEVER THE INPUT: true; the input reads as it did. -/
def seenMatchesReferenceSpec : ChangeSpec := { name := "seenMatchesReference", fn := fun _ => fun
  | [d1, d2, d3, d4] => { results := [.lit (.bool true)], args := [d1, d2, d3, d4] }
  | _ => none }
def seenMatchesReferenceRow : OpenClaim := { program := "ytjibgfihfbdcaaa", sum := "6784db7f13afd5eb53f221fe3376c1f71bba00214a374d86e057f9f416055ecd", func := "slotmesh/slotmeshlaw26.SeenMatchesReference", spec := "seenMatchesReference", inPlace := ["slices.overlaps[slotmesh/api.Seen]", "slices.overlaps[slotmesh/api.Range]"], unfollowed := true, recurses := true, apart := false }
def SeenMatchesReferenceSaid : Prop := seenMatchesReferenceRow.holds Try.pinned (OpenSpec.ofChange seenMatchesReferenceSpec)

/-- ITS FALSE NEIGHBOUR: 'it returns false'. Refute it at one input. -/
def seenMatchesReferenceWrong : ChangeSpec := { name := "seenMatchesReference", fn := fun _ => fun
  | [d1, d2, d3, d4] => { results := [.lit (.bool false)], args := [d1, d2, d3, d4] }
  | _ => none }
def SeenMatchesReferenceWrongFalsely : Prop := seenMatchesReferenceRow.holds Try.pinned (OpenSpec.ofChange seenMatchesReferenceWrong)

/-- 'slotmeshlaw26.SeenExactly': WHATEVER THE INPUT: true; the input reads as it did. -/
def seenExactlySpec : ChangeSpec := { name := "seenExactly", fn := fun _ => fun
  | [d1, d2, d3, d4, d5] => { results := [.lit (.bool true)], args := [d1, d2, d3, d4, d5] }
  | _ => none }
def seenExactlyRow : OpenClaim := { program := "ytjibgfihfbdcaaa", sum := "6784db7f13afd5eb53f221fe3376c1f71bba00214a374d86e057f9f416055ecd", func := "slotmesh/slotmeshlaw26.SeenExactly", spec := "seenExactly", inPlace := ["slices.overlaps[slotmesh/api.Seen]", "slices.overlaps[slotmesh/api.Range]"], unfollowed := true, recurses := true, apart := false }
def SeenExactlySaid : Prop := seenExactlyRow.holds Try.pinned (OpenSpec.ofChange seenExactlySpec)

/-- ITS FALSE NEIGHBOUR: 'it returns false'. Refute it at one input. -/
def seenExactlyWrong : ChangeSpec := { name := "seenExactly", fn := fun _ => fun
  | [d1, d2, d3, d4, d5] => { results := [.lit (.bool false)], args := [d1, d2, d3, d4, d5] }
  | _ => none }
def SeenExactlyWrongFalsely : Prop := seenExactlyRow.holds Try.pinned (OpenSpec.ofChange seenExactlyWrong)

/-- 'slotmeshlaw26.SeenOrder': WHATEVER THE INPUT: true; the input reads as it did. -/
def seenOrderSpec : ChangeSpec := { name := "seenOrder", fn := fun _ => fun
  | [d1, d2] => { results := [.lit (.bool true)], args := [d1, d2] }
  | _ => none }
def seenOrderRow : OpenClaim := { program := "ytjibgfihfbdcaaa", sum := "6784db7f13afd5eb53f221fe3376c1f71bba00214a374d86e057f9f416055ecd", func := "slotmesh/slotmeshlaw26.SeenOrder", spec := "seenOrder", inPlace := ["slices.overlaps[slotmesh/api.Seen]", "slices.overlaps[slotmesh/api.Range]"], unfollowed := true, recurses := true, apart := false }
def SeenOrderSaid : Prop := seenOrderRow.holds Try.pinned (OpenSpec.ofChange seenOrderSpec)

/-- ITS FALSE NEIGHBOUR: 'it returns false'. Refute it at one input. -/
def seenOrderWrong : ChangeSpec := { name := "seenOrder", fn := fun _ => fun
  | [d1, d2] => { results := [.lit (.bool false)], args := [d1, d2] }
  | _ => none }
def SeenOrderWrongFalsely : Prop := seenOrderRow.holds Try.pinned (OpenSpec.ofChange seenOrderWrong)

/-- 'slotmeshlaw26.SeenRoom': WHATEVER THE INPUT: true; the input reads as it did. -/
def seenRoomSpec : ChangeSpec := { name := "seenRoom", fn := fun _ => fun
  | [d1, d2, d3] => { results := [.lit (.bool true)], args := [d1, d2, d3] }
  | _ => none }
def seenRoomRow : OpenClaim := { program := "ytjibgfihfbdcaaa", sum := "6784db7f13afd5eb53f221fe3376c1f71bba00214a374d86e057f9f416055ecd", func := "slotmesh/slotmeshlaw26.SeenRoom", spec := "seenRoom", inPlace := ["slices.overlaps[slotmesh/api.Seen]", "slices.overlaps[slotmesh/api.Range]"], unfollowed := true, recurses := true, apart := false }
def SeenRoomSaid : Prop := seenRoomRow.holds Try.pinned (OpenSpec.ofChange seenRoomSpec)

/-- ITS FALSE NEIGHBOUR: 'it returns false'. Refute it at one input. -/
def seenRoomWrong : ChangeSpec := { name := "seenRoom", fn := fun _ => fun
  | [d1, d2, d3] => { results := [.lit (.bool false)], args := [d1, d2, d3] }
  | _ => none }
def SeenRoomWrongFalsely : Prop := seenRoomRow.holds Try.pinned (OpenSpec.ofChange seenRoomWrong)

/-- 'slotmeshlaw26.SeenGaps': WHATEVER THE INPUT: true; the input reads as it did. -/
def seenGapsSpec : ChangeSpec := { name := "seenGaps", fn := fun _ => fun
  | [d1, d2] => { results := [.lit (.bool true)], args := [d1, d2] }
  | _ => none }
def seenGapsRow : OpenClaim := { program := "ytjibgfihfbdcaaa", sum := "6784db7f13afd5eb53f221fe3376c1f71bba00214a374d86e057f9f416055ecd", func := "slotmesh/slotmeshlaw26.SeenGaps", spec := "seenGaps", inPlace := ["slices.overlaps[slotmesh/api.Seen]", "slices.overlaps[slotmesh/api.Range]"], unfollowed := true, recurses := true, apart := false }
def SeenGapsSaid : Prop := seenGapsRow.holds Try.pinned (OpenSpec.ofChange seenGapsSpec)

/-- ITS FALSE NEIGHBOUR: 'it returns false'. Refute it at one input. -/
def seenGapsWrong : ChangeSpec := { name := "seenGaps", fn := fun _ => fun
  | [d1, d2] => { results := [.lit (.bool false)], args := [d1, d2] }
  | _ => none }
def SeenGapsWrongFalsely : Prop := seenGapsRow.holds Try.pinned (OpenSpec.ofChange seenGapsWrong)

/-- 'slotmeshlaw26.SeenOrigins': WHATEVER THE INPUT: true; the input reads as it did. -/
def seenOriginsSpec : ChangeSpec := { name := "seenOrigins", fn := fun _ => fun
  | [d1, d2, d3, d4] => { results := [.lit (.bool true)], args := [d1, d2, d3, d4] }
  | _ => none }
def seenOriginsRow : OpenClaim := { program := "ytjibgfihfbdcaaa", sum := "6784db7f13afd5eb53f221fe3376c1f71bba00214a374d86e057f9f416055ecd", func := "slotmesh/slotmeshlaw26.SeenOrigins", spec := "seenOrigins", inPlace := ["slices.overlaps[slotmesh/api.Seen]", "slices.overlaps[slotmesh/api.Range]"], unfollowed := true, recurses := true, apart := false }
def SeenOriginsSaid : Prop := seenOriginsRow.holds Try.pinned (OpenSpec.ofChange seenOriginsSpec)

/-- ITS FALSE NEIGHBOUR: 'it returns false'. Refute it at one input. -/
def seenOriginsWrong : ChangeSpec := { name := "seenOrigins", fn := fun _ => fun
  | [d1, d2, d3, d4] => { results := [.lit (.bool false)], args := [d1, d2, d3, d4] }
  | _ => none }
def SeenOriginsWrongFalsely : Prop := seenOriginsRow.holds Try.pinned (OpenSpec.ofChange seenOriginsWrong)

/- THE SECOND FORM. 'bulk': how many values and letters a reading holds, each counted each time it is reached (what is shared counts as often as it is met; a slice's spare places count too). A statement '..UptoSaid' is the law's where the arguments, and the package variables that the reading takes, are together of bulk at most 1048576: NARROWER than '..Said'. Prove '..Said' where nothing that the law and all that it calls make is longer than what came in: it says more and counts as full. Else prove '..UptoSaid'. A law counts once. -/
mutual
def uptoBulk {H : Type} : DataW H → Nat
  | .lit (.string bytes) => bytes.length + 1
  | .lit _ => 1
  | .nil => 1
  | .ptr d => uptoBulk d + 1
  | .slice elems spare => uptoBulkAll elems + uptoBulkAll spare + 1
  | .agg parts => uptoBulkAll parts + 1
  | .iface _ d => uptoBulk d + 1
  | .map entries => uptoBulkEntries entries + 1
  | .held _ => 1
def uptoBulkAll {H : Type} : List (DataW H) → Nat
  | [] => 0
  | d :: r => uptoBulk d + uptoBulkAll r
def uptoBulkEntries {H : Type} : List (Lit × DataW H) → Nat
  | [] => 0
  | x :: r => uptoBulkEntry x + uptoBulkEntries r
def uptoBulkEntry {H : Type} : Lit × DataW H → Nat
  | (.string bytes, d) => bytes.length + uptoBulk d + 1
  | (_, d) => uptoBulk d + 1
 end
def uptoSmall : (H : Type) → List (DataW H) → Bool := fun _ ds => decide (uptoBulkAll ds ≤ 1048576)
def OpenSpec.upto (s : _root_.Go.ChangeSpec) : _root_.Go.OpenSpec := { _root_.Go.OpenSpec.ofChange s with cond := some uptoSmall }

/-- 'slotmeshlaw26.SeenMatchesReference', WHERE WHAT IT READS IS OF BULK AT MOST 1048576: true; the input reads as it did. -/
def seenMatchesReferenceUptoRow : OpenClaim := { program := "ytjibgfihfbdcaaa", sum := "6784db7f13afd5eb53f221fe3376c1f71bba00214a374d86e057f9f416055ecd", func := "slotmesh/slotmeshlaw26.SeenMatchesReference", spec := "seenMatchesReference", inPlace := ["slices.overlaps[slotmesh/api.Seen]", "slices.overlaps[slotmesh/api.Range]"], unfollowed := true, recurses := true, apart := false, narrowed := true }
def SeenMatchesReferenceUptoSaid : Prop := seenMatchesReferenceUptoRow.holds Try.pinned (OpenSpec.upto seenMatchesReferenceSpec)

/-- 'slotmeshlaw26.SeenExactly', WHERE WHAT IT READS IS OF BULK AT MOST 1048576: true; the input reads as it did. -/
def seenExactlyUptoRow : OpenClaim := { program := "ytjibgfihfbdcaaa", sum := "6784db7f13afd5eb53f221fe3376c1f71bba00214a374d86e057f9f416055ecd", func := "slotmesh/slotmeshlaw26.SeenExactly", spec := "seenExactly", inPlace := ["slices.overlaps[slotmesh/api.Seen]", "slices.overlaps[slotmesh/api.Range]"], unfollowed := true, recurses := true, apart := false, narrowed := true }
def SeenExactlyUptoSaid : Prop := seenExactlyUptoRow.holds Try.pinned (OpenSpec.upto seenExactlySpec)

/-- 'slotmeshlaw26.SeenOrder', WHERE WHAT IT READS IS OF BULK AT MOST 1048576: true; the input reads as it did. -/
def seenOrderUptoRow : OpenClaim := { program := "ytjibgfihfbdcaaa", sum := "6784db7f13afd5eb53f221fe3376c1f71bba00214a374d86e057f9f416055ecd", func := "slotmesh/slotmeshlaw26.SeenOrder", spec := "seenOrder", inPlace := ["slices.overlaps[slotmesh/api.Seen]", "slices.overlaps[slotmesh/api.Range]"], unfollowed := true, recurses := true, apart := false, narrowed := true }
def SeenOrderUptoSaid : Prop := seenOrderUptoRow.holds Try.pinned (OpenSpec.upto seenOrderSpec)

/-- 'slotmeshlaw26.SeenRoom', WHERE WHAT IT READS IS OF BULK AT MOST 1048576: true; the input reads as it did. -/
def seenRoomUptoRow : OpenClaim := { program := "ytjibgfihfbdcaaa", sum := "6784db7f13afd5eb53f221fe3376c1f71bba00214a374d86e057f9f416055ecd", func := "slotmesh/slotmeshlaw26.SeenRoom", spec := "seenRoom", inPlace := ["slices.overlaps[slotmesh/api.Seen]", "slices.overlaps[slotmesh/api.Range]"], unfollowed := true, recurses := true, apart := false, narrowed := true }
def SeenRoomUptoSaid : Prop := seenRoomUptoRow.holds Try.pinned (OpenSpec.upto seenRoomSpec)

/-- 'slotmeshlaw26.SeenGaps', WHERE WHAT IT READS IS OF BULK AT MOST 1048576: true; the input reads as it did. -/
def seenGapsUptoRow : OpenClaim := { program := "ytjibgfihfbdcaaa", sum := "6784db7f13afd5eb53f221fe3376c1f71bba00214a374d86e057f9f416055ecd", func := "slotmesh/slotmeshlaw26.SeenGaps", spec := "seenGaps", inPlace := ["slices.overlaps[slotmesh/api.Seen]", "slices.overlaps[slotmesh/api.Range]"], unfollowed := true, recurses := true, apart := false, narrowed := true }
def SeenGapsUptoSaid : Prop := seenGapsUptoRow.holds Try.pinned (OpenSpec.upto seenGapsSpec)

/-- 'slotmeshlaw26.SeenOrigins', WHERE WHAT IT READS IS OF BULK AT MOST 1048576: true; the input reads as it did. -/
def seenOriginsUptoRow : OpenClaim := { program := "ytjibgfihfbdcaaa", sum := "6784db7f13afd5eb53f221fe3376c1f71bba00214a374d86e057f9f416055ecd", func := "slotmesh/slotmeshlaw26.SeenOrigins", spec := "seenOrigins", inPlace := ["slices.overlaps[slotmesh/api.Seen]", "slices.overlaps[slotmesh/api.Range]"], unfollowed := true, recurses := true, apart := false, narrowed := true }
def SeenOriginsUptoSaid : Prop := seenOriginsUptoRow.holds Try.pinned (OpenSpec.upto seenOriginsSpec)

end Rows
end Go.Proofs.Ytjibgfihfbdcaaa
