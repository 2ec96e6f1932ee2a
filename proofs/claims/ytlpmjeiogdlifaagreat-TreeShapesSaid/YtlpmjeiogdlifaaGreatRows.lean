/-
  No cell of these rows narrows 'for every input' (looked for: loops, veiled, ifaces, maps, wideKeys, modest, calm, conditions, laid).
  DERIVED. THE GIVEN ROWS OF THIS SEAT. 12 by the template 'for every input the law returns true; each argument reads behind the call as it read before'; 0 by the template 'total and deterministic' (their statements: YtlpmjeiogdlifaaGreatTotals.lean).
  GIVEN WITH THE SEED: the statements are not yours to turn. If you find one false, say at which input.
  Laid BY PROGRAM, IN A SANDBOX (cutbox-rows.mjs): the forced cells as the released guide's own fill.sh prints them over the translation 47ad461617ebe4d0… (all of the seat's roots in one cut). By AI agents, Wed Nov 11 2026. No macro, syntax, notation, axiom, sorry.
-/
import Derived.Test.YtlpmjeiogdlifaaGreatChecked
import GoSem.Claim
import GoSem.ClaimJoined
import GoSem.ClaimMapViews
import Derived.JoinedTies
import Derived.KernelRfl
namespace Go.Proofs.YtlpmjeiogdlifaaGreat
/- THE CELL 'sum', in the pinned program and in every row, IS THE sha256 OF THE DUMP (.gsa) THAT YtlpmjeiogdlifaaGreatProg.lean LOADS. Nothing in Lean hashes anything: it is a label: what it is worth is what the hold of that sum in a sandbox is worth. -/
noncomputable def Tryz.pinned : Pinned := { name := "ytlpmjeiogdlifaagreat", sum := "47ad461617ebe4d03e2af4e9ca12dffafec9d25d61fdd2e944ffd7e18d9927c0", checked := Tryz.checked }
namespace Rows
def none {H : Type} : Left H := { results := [], args := [] }

/-- 'copyholdlaw9.TreeGrown': WHATEVER THE INPUT: true; the input reads as it did. -/
def treeGrownSpec : ChangeSpec := { name := "treeGrown", fn := fun _ => fun
  | [d] => { results := [.lit (.bool true)], args := [d] }
  | _ => none }
def treeGrownRow : OpenClaim := { program := "ytlpmjeiogdlifaagreat", sum := "47ad461617ebe4d03e2af4e9ca12dffafec9d25d61fdd2e944ffd7e18d9927c0", func := "copyhold/copyholdlaw9.TreeGrown", spec := "treeGrown", inPlace := ["slices.overlaps[int]", "internal/abi.NoEscape", "internal/bytealg.MakeNoZero", "internal/reflectlite.TypeOf"], unfollowed := true, recurses := true, apart := false }
def TreeGrownSaid : Prop := treeGrownRow.holds Tryz.pinned (OpenSpec.ofChange treeGrownSpec)

/-- ITS FALSE NEIGHBOUR: 'it returns false'. Refute it at one input. -/
def treeGrownWrong : ChangeSpec := { name := "treeGrown", fn := fun _ => fun
  | [d] => { results := [.lit (.bool false)], args := [d] }
  | _ => none }
def TreeGrownWrongFalsely : Prop := treeGrownRow.holds Tryz.pinned (OpenSpec.ofChange treeGrownWrong)

/-- 'copyholdlaw9.TreeShapes': WHATEVER THE INPUT: true; the input reads as it did. -/
def treeShapesSpec : ChangeSpec := { name := "treeShapes", fn := fun _ => fun
  | [d] => { results := [.lit (.bool true)], args := [d] }
  | _ => none }
def treeShapesRow : OpenClaim := { program := "ytlpmjeiogdlifaagreat", sum := "47ad461617ebe4d03e2af4e9ca12dffafec9d25d61fdd2e944ffd7e18d9927c0", func := "copyhold/copyholdlaw9.TreeShapes", spec := "treeShapes", inPlace := ["slices.overlaps[int]", "internal/abi.NoEscape", "internal/bytealg.MakeNoZero", "internal/reflectlite.TypeOf"], unfollowed := true, recurses := true, apart := false }
def TreeShapesSaid : Prop := treeShapesRow.holds Tryz.pinned (OpenSpec.ofChange treeShapesSpec)

/-- ITS FALSE NEIGHBOUR: 'it returns false'. Refute it at one input. -/
def treeShapesWrong : ChangeSpec := { name := "treeShapes", fn := fun _ => fun
  | [d] => { results := [.lit (.bool false)], args := [d] }
  | _ => none }
def TreeShapesWrongFalsely : Prop := treeShapesRow.holds Tryz.pinned (OpenSpec.ofChange treeShapesWrong)

/-- 'copyholdlaw9.TreeSpoilt': WHATEVER THE INPUT: true; the input reads as it did. -/
def treeSpoiltSpec : ChangeSpec := { name := "treeSpoilt", fn := fun _ => fun
  | [d1, d2, d3] => { results := [.lit (.bool true)], args := [d1, d2, d3] }
  | _ => none }
def treeSpoiltRow : OpenClaim := { program := "ytlpmjeiogdlifaagreat", sum := "47ad461617ebe4d03e2af4e9ca12dffafec9d25d61fdd2e944ffd7e18d9927c0", func := "copyhold/copyholdlaw9.TreeSpoilt", spec := "treeSpoilt", inPlace := ["slices.overlaps[int]", "internal/abi.NoEscape", "internal/bytealg.MakeNoZero", "internal/reflectlite.TypeOf"], unfollowed := true, recurses := true, apart := false }
def TreeSpoiltSaid : Prop := treeSpoiltRow.holds Tryz.pinned (OpenSpec.ofChange treeSpoiltSpec)

/-- ITS FALSE NEIGHBOUR: 'it returns false'. Refute it at one input. -/
def treeSpoiltWrong : ChangeSpec := { name := "treeSpoilt", fn := fun _ => fun
  | [d1, d2, d3] => { results := [.lit (.bool false)], args := [d1, d2, d3] }
  | _ => none }
def TreeSpoiltWrongFalsely : Prop := treeSpoiltRow.holds Tryz.pinned (OpenSpec.ofChange treeSpoiltWrong)

/-- 'copyholdlaw11.PutPath': WHATEVER THE INPUT: true; the input reads as it did. -/
def putPathSpec : ChangeSpec := { name := "putPath", fn := fun _ => fun
  | [d1, d2] => { results := [.lit (.bool true)], args := [d1, d2] }
  | _ => none }
def putPathRow : OpenClaim := { program := "ytlpmjeiogdlifaagreat", sum := "47ad461617ebe4d03e2af4e9ca12dffafec9d25d61fdd2e944ffd7e18d9927c0", func := "copyhold/copyholdlaw11.PutPath", spec := "putPath", inPlace := ["slices.overlaps[int]", "slices.overlaps[copyhold/api.Item]", "slices.overlaps[string]", "internal/abi.NoEscape", "internal/bytealg.MakeNoZero", "internal/reflectlite.TypeOf"], unfollowed := true, recurses := true, apart := false }
def PutPathSaid : Prop := putPathRow.holds Tryz.pinned (OpenSpec.ofChange putPathSpec)

/-- ITS FALSE NEIGHBOUR: 'it returns false'. Refute it at one input. -/
def putPathWrong : ChangeSpec := { name := "putPath", fn := fun _ => fun
  | [d1, d2] => { results := [.lit (.bool false)], args := [d1, d2] }
  | _ => none }
def PutPathWrongFalsely : Prop := putPathRow.holds Tryz.pinned (OpenSpec.ofChange putPathWrong)

/-- 'copyholdlaw11.PutSorted': WHATEVER THE INPUT: true; the input reads as it did. -/
def putSortedSpec : ChangeSpec := { name := "putSorted", fn := fun _ => fun
  | [d1, d2] => { results := [.lit (.bool true)], args := [d1, d2] }
  | _ => none }
def putSortedRow : OpenClaim := { program := "ytlpmjeiogdlifaagreat", sum := "47ad461617ebe4d03e2af4e9ca12dffafec9d25d61fdd2e944ffd7e18d9927c0", func := "copyhold/copyholdlaw11.PutSorted", spec := "putSorted", inPlace := ["slices.overlaps[int]", "slices.overlaps[copyhold/api.Item]", "slices.overlaps[string]", "internal/abi.NoEscape", "internal/bytealg.MakeNoZero", "internal/reflectlite.TypeOf"], unfollowed := true, recurses := true, apart := false }
def PutSortedSaid : Prop := putSortedRow.holds Tryz.pinned (OpenSpec.ofChange putSortedSpec)

/-- ITS FALSE NEIGHBOUR: 'it returns false'. Refute it at one input. -/
def putSortedWrong : ChangeSpec := { name := "putSorted", fn := fun _ => fun
  | [d1, d2] => { results := [.lit (.bool false)], args := [d1, d2] }
  | _ => none }
def PutSortedWrongFalsely : Prop := putSortedRow.holds Tryz.pinned (OpenSpec.ofChange putSortedWrong)

/-- 'copyholdlaw11.PutOrders': WHATEVER THE INPUT: true; the input reads as it did. -/
def putOrdersSpec : ChangeSpec := { name := "putOrders", fn := fun _ => fun
  | [d1, d2] => { results := [.lit (.bool true)], args := [d1, d2] }
  | _ => none }
def putOrdersRow : OpenClaim := { program := "ytlpmjeiogdlifaagreat", sum := "47ad461617ebe4d03e2af4e9ca12dffafec9d25d61fdd2e944ffd7e18d9927c0", func := "copyhold/copyholdlaw11.PutOrders", spec := "putOrders", inPlace := ["slices.overlaps[int]", "slices.overlaps[copyhold/api.Item]", "slices.overlaps[string]", "internal/abi.NoEscape", "internal/bytealg.MakeNoZero", "internal/reflectlite.TypeOf"], unfollowed := true, recurses := true, apart := false }
def PutOrdersSaid : Prop := putOrdersRow.holds Tryz.pinned (OpenSpec.ofChange putOrdersSpec)

/-- ITS FALSE NEIGHBOUR: 'it returns false'. Refute it at one input. -/
def putOrdersWrong : ChangeSpec := { name := "putOrders", fn := fun _ => fun
  | [d1, d2] => { results := [.lit (.bool false)], args := [d1, d2] }
  | _ => none }
def PutOrdersWrongFalsely : Prop := putOrdersRow.holds Tryz.pinned (OpenSpec.ofChange putOrdersWrong)

/-- 'copyholdlaw12.CutElder': WHATEVER THE INPUT: true; the input reads as it did. -/
def cutElderSpec : ChangeSpec := { name := "cutElder", fn := fun _ => fun
  | [d1, d2] => { results := [.lit (.bool true)], args := [d1, d2] }
  | _ => none }
def cutElderRow : OpenClaim := { program := "ytlpmjeiogdlifaagreat", sum := "47ad461617ebe4d03e2af4e9ca12dffafec9d25d61fdd2e944ffd7e18d9927c0", func := "copyhold/copyholdlaw12.CutElder", spec := "cutElder", inPlace := ["slices.overlaps[int]", "internal/abi.NoEscape", "internal/bytealg.MakeNoZero", "internal/reflectlite.TypeOf"], unfollowed := true, recurses := true, apart := false }
def CutElderSaid : Prop := cutElderRow.holds Tryz.pinned (OpenSpec.ofChange cutElderSpec)

/-- ITS FALSE NEIGHBOUR: 'it returns false'. Refute it at one input. -/
def cutElderWrong : ChangeSpec := { name := "cutElder", fn := fun _ => fun
  | [d1, d2] => { results := [.lit (.bool false)], args := [d1, d2] }
  | _ => none }
def CutElderWrongFalsely : Prop := cutElderRow.holds Tryz.pinned (OpenSpec.ofChange cutElderWrong)

/-- 'copyholdlaw12.CutNone': WHATEVER THE INPUT: true; the input reads as it did. -/
def cutNoneSpec : ChangeSpec := { name := "cutNone", fn := fun _ => fun
  | [d1, d2] => { results := [.lit (.bool true)], args := [d1, d2] }
  | _ => none }
def cutNoneRow : OpenClaim := { program := "ytlpmjeiogdlifaagreat", sum := "47ad461617ebe4d03e2af4e9ca12dffafec9d25d61fdd2e944ffd7e18d9927c0", func := "copyhold/copyholdlaw12.CutNone", spec := "cutNone", inPlace := ["slices.overlaps[int]", "internal/abi.NoEscape", "internal/bytealg.MakeNoZero", "internal/reflectlite.TypeOf"], unfollowed := true, recurses := true, apart := false }
def CutNoneSaid : Prop := cutNoneRow.holds Tryz.pinned (OpenSpec.ofChange cutNoneSpec)

/-- ITS FALSE NEIGHBOUR: 'it returns false'. Refute it at one input. -/
def cutNoneWrong : ChangeSpec := { name := "cutNone", fn := fun _ => fun
  | [d1, d2] => { results := [.lit (.bool false)], args := [d1, d2] }
  | _ => none }
def CutNoneWrongFalsely : Prop := cutNoneRow.holds Tryz.pinned (OpenSpec.ofChange cutNoneWrong)

/-- 'copyholdlaw12.CutLeft': WHATEVER THE INPUT: true; the input reads as it did. -/
def cutLeftSpec : ChangeSpec := { name := "cutLeft", fn := fun _ => fun
  | [d1, d2, d3] => { results := [.lit (.bool true)], args := [d1, d2, d3] }
  | _ => none }
def cutLeftRow : OpenClaim := { program := "ytlpmjeiogdlifaagreat", sum := "47ad461617ebe4d03e2af4e9ca12dffafec9d25d61fdd2e944ffd7e18d9927c0", func := "copyhold/copyholdlaw12.CutLeft", spec := "cutLeft", inPlace := ["slices.overlaps[int]", "internal/abi.NoEscape", "internal/bytealg.MakeNoZero", "internal/reflectlite.TypeOf"], unfollowed := true, recurses := true, apart := false }
def CutLeftSaid : Prop := cutLeftRow.holds Tryz.pinned (OpenSpec.ofChange cutLeftSpec)

/-- ITS FALSE NEIGHBOUR: 'it returns false'. Refute it at one input. -/
def cutLeftWrong : ChangeSpec := { name := "cutLeft", fn := fun _ => fun
  | [d1, d2, d3] => { results := [.lit (.bool false)], args := [d1, d2, d3] }
  | _ => none }
def CutLeftWrongFalsely : Prop := cutLeftRow.holds Tryz.pinned (OpenSpec.ofChange cutLeftWrong)

/-- 'copyholdlaw12.CutPut': WHATEVER THE INPUT: true; the input reads as it did. -/
def cutPutSpec : ChangeSpec := { name := "cutPut", fn := fun _ => fun
  | [d] => { results := [.lit (.bool true)], args := [d] }
  | _ => none }
def cutPutRow : OpenClaim := { program := "ytlpmjeiogdlifaagreat", sum := "47ad461617ebe4d03e2af4e9ca12dffafec9d25d61fdd2e944ffd7e18d9927c0", func := "copyhold/copyholdlaw12.CutPut", spec := "cutPut", inPlace := ["slices.overlaps[int]", "internal/abi.NoEscape", "internal/bytealg.MakeNoZero", "internal/reflectlite.TypeOf", "slices.overlaps[copyhold/api.Item]", "slices.overlaps[string]"], unfollowed := true, recurses := true, apart := false }
def CutPutSaid : Prop := cutPutRow.holds Tryz.pinned (OpenSpec.ofChange cutPutSpec)

/-- ITS FALSE NEIGHBOUR: 'it returns false'. Refute it at one input. -/
def cutPutWrong : ChangeSpec := { name := "cutPut", fn := fun _ => fun
  | [d] => { results := [.lit (.bool false)], args := [d] }
  | _ => none }
def CutPutWrongFalsely : Prop := cutPutRow.holds Tryz.pinned (OpenSpec.ofChange cutPutWrong)

/-- 'copyholdlaw15.BagSizes': WHATEVER THE INPUT: true; the input reads as it did. -/
def bagSizesSpec : ChangeSpec := { name := "bagSizes", fn := fun _ => fun
  | [d1, d2, d3] => { results := [.lit (.bool true)], args := [d1, d2, d3] }
  | _ => none }
def bagSizesRow : OpenClaim := { program := "ytlpmjeiogdlifaagreat", sum := "47ad461617ebe4d03e2af4e9ca12dffafec9d25d61fdd2e944ffd7e18d9927c0", func := "copyhold/copyholdlaw15.BagSizes", spec := "bagSizes", inPlace := ["slices.overlaps[int]", "slices.overlaps[string]", "slices.overlaps[copyhold/api.Item]", "internal/reflectlite.TypeOf"], unfollowed := true, recurses := true, apart := false }
def BagSizesSaid : Prop := bagSizesRow.holds Tryz.pinned (OpenSpec.ofChange bagSizesSpec)

/-- ITS FALSE NEIGHBOUR: 'it returns false'. Refute it at one input. -/
def bagSizesWrong : ChangeSpec := { name := "bagSizes", fn := fun _ => fun
  | [d1, d2, d3] => { results := [.lit (.bool false)], args := [d1, d2, d3] }
  | _ => none }
def BagSizesWrongFalsely : Prop := bagSizesRow.holds Tryz.pinned (OpenSpec.ofChange bagSizesWrong)

/-- 'copyholdlaw15.BagFlags': WHATEVER THE INPUT: true; the input reads as it did. -/
def bagFlagsSpec : ChangeSpec := { name := "bagFlags", fn := fun _ => fun
  | [d1, d2, d3] => { results := [.lit (.bool true)], args := [d1, d2, d3] }
  | _ => none }
def bagFlagsRow : OpenClaim := { program := "ytlpmjeiogdlifaagreat", sum := "47ad461617ebe4d03e2af4e9ca12dffafec9d25d61fdd2e944ffd7e18d9927c0", func := "copyhold/copyholdlaw15.BagFlags", spec := "bagFlags", inPlace := ["slices.overlaps[int]", "slices.overlaps[string]", "slices.overlaps[copyhold/api.Item]", "internal/reflectlite.TypeOf"], unfollowed := true, recurses := true, apart := false }
def BagFlagsSaid : Prop := bagFlagsRow.holds Tryz.pinned (OpenSpec.ofChange bagFlagsSpec)

/-- ITS FALSE NEIGHBOUR: 'it returns false'. Refute it at one input. -/
def bagFlagsWrong : ChangeSpec := { name := "bagFlags", fn := fun _ => fun
  | [d1, d2, d3] => { results := [.lit (.bool false)], args := [d1, d2, d3] }
  | _ => none }
def BagFlagsWrongFalsely : Prop := bagFlagsRow.holds Tryz.pinned (OpenSpec.ofChange bagFlagsWrong)

/- THE SECOND FORM. 'bulk': how many values and letters a reading holds, each counted each time it is reached (what is shared counts as often as it is met; a slice's spare places count too). A statement '..UptoSaid' is the law's where the arguments, and the package variables that the reading takes, are together of bulk at most 1048576: NARROWER than '..Said'. Prove '..Said' where nothing that the law and all that it calls make is longer than what came in: it says more and counts as full. Else prove '..UptoSaid'. A law counts once. -/
mutual
def uptoBulk {H : Type} : DataW H → Nat
  | .lit (.string bytes) => bytes.length + 1
  | .lit _ => 1
  | .nil => 1
  | .ptr d => uptoBulk d + 1
  | .slice elems spare => uptoBulkAll elems + uptoBulkAll spare + 1
  | .agg parts => uptoBulkAll parts + 1
  | .iface _ d => uptoBulk d + 1
  | .map entries => uptoBulkEntries entries + 1
  | .held _ => 1
def uptoBulkAll {H : Type} : List (DataW H) → Nat
  | [] => 0
  | d :: r => uptoBulk d + uptoBulkAll r
def uptoBulkEntries {H : Type} : List (Lit × DataW H) → Nat
  | [] => 0
  | x :: r => uptoBulkEntry x + uptoBulkEntries r
def uptoBulkEntry {H : Type} : Lit × DataW H → Nat
  | (.string bytes, d) => bytes.length + uptoBulk d + 1
  | (_, d) => uptoBulk d + 1
 end
def uptoSmall : (H : Type) → List (DataW H) → Bool := fun _ ds => decide (uptoBulkAll ds ≤ 1048576)
def OpenSpec.upto (s : _root_.Go.ChangeSpec) : _root_.Go.OpenSpec := { _root_.Go.OpenSpec.ofChange s with cond := some uptoSmall }

/-- 'copyholdlaw9.TreeGrown', WHERE WHAT IT READS IS OF BULK AT MOST 1048576: true; the input reads as it did. -/
def treeGrownUptoRow : OpenClaim := { program := "ytlpmjeiogdlifaagreat", sum := "47ad461617ebe4d03e2af4e9ca12dffafec9d25d61fdd2e944ffd7e18d9927c0", func := "copyhold/copyholdlaw9.TreeGrown", spec := "treeGrown", inPlace := ["slices.overlaps[int]", "internal/abi.NoEscape", "internal/bytealg.MakeNoZero", "internal/reflectlite.TypeOf"], unfollowed := true, recurses := true, apart := false, narrowed := true }
def TreeGrownUptoSaid : Prop := treeGrownUptoRow.holds Tryz.pinned (OpenSpec.upto treeGrownSpec)

/-- 'copyholdlaw9.TreeShapes', WHERE WHAT IT READS IS OF BULK AT MOST 1048576: true; the input reads as it did. -/
def treeShapesUptoRow : OpenClaim := { program := "ytlpmjeiogdlifaagreat", sum := "47ad461617ebe4d03e2af4e9ca12dffafec9d25d61fdd2e944ffd7e18d9927c0", func := "copyhold/copyholdlaw9.TreeShapes", spec := "treeShapes", inPlace := ["slices.overlaps[int]", "internal/abi.NoEscape", "internal/bytealg.MakeNoZero", "internal/reflectlite.TypeOf"], unfollowed := true, recurses := true, apart := false, narrowed := true }
def TreeShapesUptoSaid : Prop := treeShapesUptoRow.holds Tryz.pinned (OpenSpec.upto treeShapesSpec)

/-- 'copyholdlaw9.TreeSpoilt', WHERE WHAT IT READS IS OF BULK AT MOST 1048576: true; the input reads as it did. -/
def treeSpoiltUptoRow : OpenClaim := { program := "ytlpmjeiogdlifaagreat", sum := "47ad461617ebe4d03e2af4e9ca12dffafec9d25d61fdd2e944ffd7e18d9927c0", func := "copyhold/copyholdlaw9.TreeSpoilt", spec := "treeSpoilt", inPlace := ["slices.overlaps[int]", "internal/abi.NoEscape", "internal/bytealg.MakeNoZero", "internal/reflectlite.TypeOf"], unfollowed := true, recurses := true, apart := false, narrowed := true }
def TreeSpoiltUptoSaid : Prop := treeSpoiltUptoRow.holds Tryz.pinned (OpenSpec.upto treeSpoiltSpec)

/-- 'copyholdlaw11.PutPath', WHERE WHAT IT READS IS OF BULK AT MOST 1048576: true; the input reads as it did. -/
def putPathUptoRow : OpenClaim := { program := "ytlpmjeiogdlifaagreat", sum := "47ad461617ebe4d03e2af4e9ca12dffafec9d25d61fdd2e944ffd7e18d9927c0", func := "copyhold/copyholdlaw11.PutPath", spec := "putPath", inPlace := ["slices.overlaps[int]", "slices.overlaps[copyhold/api.Item]", "slices.overlaps[string]", "internal/abi.NoEscape", "internal/bytealg.MakeNoZero", "internal/reflectlite.TypeOf"], unfollowed := true, recurses := true, apart := false, narrowed := true }
def PutPathUptoSaid : Prop := putPathUptoRow.holds Tryz.pinned (OpenSpec.upto putPathSpec)

/-- 'copyholdlaw11.PutSorted', WHERE WHAT IT READS IS OF BULK AT MOST 1048576: true; the input reads as it did. -/
def putSortedUptoRow : OpenClaim := { program := "ytlpmjeiogdlifaagreat", sum := "47ad461617ebe4d03e2af4e9ca12dffafec9d25d61fdd2e944ffd7e18d9927c0", func := "copyhold/copyholdlaw11.PutSorted", spec := "putSorted", inPlace := ["slices.overlaps[int]", "slices.overlaps[copyhold/api.Item]", "slices.overlaps[string]", "internal/abi.NoEscape", "internal/bytealg.MakeNoZero", "internal/reflectlite.TypeOf"], unfollowed := true, recurses := true, apart := false, narrowed := true }
def PutSortedUptoSaid : Prop := putSortedUptoRow.holds Tryz.pinned (OpenSpec.upto putSortedSpec)

/-- 'copyholdlaw11.PutOrders', WHERE WHAT IT READS IS OF BULK AT MOST 1048576: true; the input reads as it did. -/
def putOrdersUptoRow : OpenClaim := { program := "ytlpmjeiogdlifaagreat", sum := "47ad461617ebe4d03e2af4e9ca12dffafec9d25d61fdd2e944ffd7e18d9927c0", func := "copyhold/copyholdlaw11.PutOrders", spec := "putOrders", inPlace := ["slices.overlaps[int]", "slices.overlaps[copyhold/api.Item]", "slices.overlaps[string]", "internal/abi.NoEscape", "internal/bytealg.MakeNoZero", "internal/reflectlite.TypeOf"], unfollowed := true, recurses := true, apart := false, narrowed := true }
def PutOrdersUptoSaid : Prop := putOrdersUptoRow.holds Tryz.pinned (OpenSpec.upto putOrdersSpec)

/-- 'copyholdlaw12.CutElder', WHERE WHAT IT READS IS OF BULK AT MOST 1048576: true; the input reads as it did. -/
def cutElderUptoRow : OpenClaim := { program := "ytlpmjeiogdlifaagreat", sum := "47ad461617ebe4d03e2af4e9ca12dffafec9d25d61fdd2e944ffd7e18d9927c0", func := "copyhold/copyholdlaw12.CutElder", spec := "cutElder", inPlace := ["slices.overlaps[int]", "internal/abi.NoEscape", "internal/bytealg.MakeNoZero", "internal/reflectlite.TypeOf"], unfollowed := true, recurses := true, apart := false, narrowed := true }
def CutElderUptoSaid : Prop := cutElderUptoRow.holds Tryz.pinned (OpenSpec.upto cutElderSpec)

/-- 'copyholdlaw12.CutNone', WHERE WHAT IT READS IS OF BULK AT MOST 1048576: true; the input reads as it did. -/
def cutNoneUptoRow : OpenClaim := { program := "ytlpmjeiogdlifaagreat", sum := "47ad461617ebe4d03e2af4e9ca12dffafec9d25d61fdd2e944ffd7e18d9927c0", func := "copyhold/copyholdlaw12.CutNone", spec := "cutNone", inPlace := ["slices.overlaps[int]", "internal/abi.NoEscape", "internal/bytealg.MakeNoZero", "internal/reflectlite.TypeOf"], unfollowed := true, recurses := true, apart := false, narrowed := true }
def CutNoneUptoSaid : Prop := cutNoneUptoRow.holds Tryz.pinned (OpenSpec.upto cutNoneSpec)

/-- 'copyholdlaw12.CutLeft', WHERE WHAT IT READS IS OF BULK AT MOST 1048576: true; the input reads as it did. -/
def cutLeftUptoRow : OpenClaim := { program := "ytlpmjeiogdlifaagreat", sum := "47ad461617ebe4d03e2af4e9ca12dffafec9d25d61fdd2e944ffd7e18d9927c0", func := "copyhold/copyholdlaw12.CutLeft", spec := "cutLeft", inPlace := ["slices.overlaps[int]", "internal/abi.NoEscape", "internal/bytealg.MakeNoZero", "internal/reflectlite.TypeOf"], unfollowed := true, recurses := true, apart := false, narrowed := true }
def CutLeftUptoSaid : Prop := cutLeftUptoRow.holds Tryz.pinned (OpenSpec.upto cutLeftSpec)

/-- 'copyholdlaw12.CutPut', WHERE WHAT IT READS IS OF BULK AT MOST 1048576: true; the input reads as it did. -/
def cutPutUptoRow : OpenClaim := { program := "ytlpmjeiogdlifaagreat", sum := "47ad461617ebe4d03e2af4e9ca12dffafec9d25d61fdd2e944ffd7e18d9927c0", func := "copyhold/copyholdlaw12.CutPut", spec := "cutPut", inPlace := ["slices.overlaps[int]", "internal/abi.NoEscape", "internal/bytealg.MakeNoZero", "internal/reflectlite.TypeOf", "slices.overlaps[copyhold/api.Item]", "slices.overlaps[string]"], unfollowed := true, recurses := true, apart := false, narrowed := true }
def CutPutUptoSaid : Prop := cutPutUptoRow.holds Tryz.pinned (OpenSpec.upto cutPutSpec)

/-- 'copyholdlaw15.BagSizes', WHERE WHAT IT READS IS OF BULK AT MOST 1048576: true; the input reads as it did. -/
def bagSizesUptoRow : OpenClaim := { program := "ytlpmjeiogdlifaagreat", sum := "47ad461617ebe4d03e2af4e9ca12dffafec9d25d61fdd2e944ffd7e18d9927c0", func := "copyhold/copyholdlaw15.BagSizes", spec := "bagSizes", inPlace := ["slices.overlaps[int]", "slices.overlaps[string]", "slices.overlaps[copyhold/api.Item]", "internal/reflectlite.TypeOf"], unfollowed := true, recurses := true, apart := false, narrowed := true }
def BagSizesUptoSaid : Prop := bagSizesUptoRow.holds Tryz.pinned (OpenSpec.upto bagSizesSpec)

/-- 'copyholdlaw15.BagFlags', WHERE WHAT IT READS IS OF BULK AT MOST 1048576: true; the input reads as it did. -/
def bagFlagsUptoRow : OpenClaim := { program := "ytlpmjeiogdlifaagreat", sum := "47ad461617ebe4d03e2af4e9ca12dffafec9d25d61fdd2e944ffd7e18d9927c0", func := "copyhold/copyholdlaw15.BagFlags", spec := "bagFlags", inPlace := ["slices.overlaps[int]", "slices.overlaps[string]", "slices.overlaps[copyhold/api.Item]", "internal/reflectlite.TypeOf"], unfollowed := true, recurses := true, apart := false, narrowed := true }
def BagFlagsUptoSaid : Prop := bagFlagsUptoRow.holds Tryz.pinned (OpenSpec.upto bagFlagsSpec)

end Rows
end Go.Proofs.YtlpmjeiogdlifaaGreat
