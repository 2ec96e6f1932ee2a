/-
  No cell of these rows narrows 'for every input' (looked for: loops, veiled, ifaces, maps, wideKeys, modest, calm, conditions, laid).
  DERIVED. THE GIVEN ROWS OF THIS SEAT. 12 by the template 'for every input the law returns true; each argument reads behind the call as it read before'; 0 by the template 'total and deterministic' (their statements: YtkcfmjlcijhieaaGreatTotals.lean).
  GIVEN WITH THE SEED: the statements are not yours to turn. If you find one false, say at which input.
  Laid BY PROGRAM, IN A SANDBOX (cutbox-rows.mjs): the forced cells as the released guide's own fill.sh prints them over the translation b660a61a021c50c9… (all of the seat's roots in one cut). By AI agents, Wed Nov 11 2026. No macro, syntax, notation, axiom, sorry.
-/
import Derived.Test.YtkcfmjlcijhieaaGreatChecked
import GoSem.Claim
import GoSem.ClaimJoined
import GoSem.ClaimMapViews
import Derived.JoinedTies
import Derived.KernelRfl
namespace Go.Proofs.YtkcfmjlcijhieaaGreat
/- THE CELL 'sum', in the pinned program and in every row, IS THE sha256 OF THE DUMP (.gsa) THAT YtkcfmjlcijhieaaGreatProg.lean LOADS. Nothing in Lean hashes anything: it is a label: what it is worth is what the hold of that sum in a sandbox is worth. -/
noncomputable def Tryz.pinned : Pinned := { name := "ytkcfmjlcijhieaagreat", sum := "b660a61a021c50c930f4402410c07574a2761ec84cd6f3343595064fb752a2e1", checked := Tryz.checked }
namespace Rows
def none {H : Type} : Left H := { results := [], args := [] }

/-- 'copyholdlaw18.FreeBack': WHATEVER THE INPUT: true; the input reads as it did. -/
def freeBackSpec : ChangeSpec := { name := "freeBack", fn := fun _ => fun
  | [d1, d2] => { results := [.lit (.bool true)], args := [d1, d2] }
  | _ => none }
def freeBackRow : OpenClaim := { program := "ytkcfmjlcijhieaagreat", sum := "b660a61a021c50c930f4402410c07574a2761ec84cd6f3343595064fb752a2e1", func := "copyhold/copyholdlaw18.FreeBack", spec := "freeBack", inPlace := ["slices.overlaps[int]", "internal/reflectlite.TypeOf"], unfollowed := true, recurses := true, apart := false }
def FreeBackSaid : Prop := freeBackRow.holds Tryz.pinned (OpenSpec.ofChange freeBackSpec)

/-- ITS FALSE NEIGHBOUR: 'it returns false'. Refute it at one input. -/
def freeBackWrong : ChangeSpec := { name := "freeBack", fn := fun _ => fun
  | [d1, d2] => { results := [.lit (.bool false)], args := [d1, d2] }
  | _ => none }
def FreeBackWrongFalsely : Prop := freeBackRow.holds Tryz.pinned (OpenSpec.ofChange freeBackWrong)

/-- 'copyholdlaw18.FreeParts': WHATEVER THE INPUT: true; the input reads as it did. -/
def freePartsSpec : ChangeSpec := { name := "freeParts", fn := fun _ => fun
  | [d1, d2] => { results := [.lit (.bool true)], args := [d1, d2] }
  | _ => none }
def freePartsRow : OpenClaim := { program := "ytkcfmjlcijhieaagreat", sum := "b660a61a021c50c930f4402410c07574a2761ec84cd6f3343595064fb752a2e1", func := "copyhold/copyholdlaw18.FreeParts", spec := "freeParts", inPlace := ["slices.overlaps[int]", "internal/reflectlite.TypeOf"], unfollowed := true, recurses := true, apart := false }
def FreePartsSaid : Prop := freePartsRow.holds Tryz.pinned (OpenSpec.ofChange freePartsSpec)

/-- ITS FALSE NEIGHBOUR: 'it returns false'. Refute it at one input. -/
def freePartsWrong : ChangeSpec := { name := "freeParts", fn := fun _ => fun
  | [d1, d2] => { results := [.lit (.bool false)], args := [d1, d2] }
  | _ => none }
def FreePartsWrongFalsely : Prop := freePartsRow.holds Tryz.pinned (OpenSpec.ofChange freePartsWrong)

/-- 'copyholdlaw18.FreeLoops': WHATEVER THE INPUT: true; the input reads as it did. -/
def freeLoopsSpec : ChangeSpec := { name := "freeLoops", fn := fun _ => fun
  | [d1, d2, d3] => { results := [.lit (.bool true)], args := [d1, d2, d3] }
  | _ => none }
def freeLoopsRow : OpenClaim := { program := "ytkcfmjlcijhieaagreat", sum := "b660a61a021c50c930f4402410c07574a2761ec84cd6f3343595064fb752a2e1", func := "copyhold/copyholdlaw18.FreeLoops", spec := "freeLoops", inPlace := ["slices.overlaps[int]", "internal/reflectlite.TypeOf"], unfollowed := true, recurses := true, apart := false }
def FreeLoopsSaid : Prop := freeLoopsRow.holds Tryz.pinned (OpenSpec.ofChange freeLoopsSpec)

/-- ITS FALSE NEIGHBOUR: 'it returns false'. Refute it at one input. -/
def freeLoopsWrong : ChangeSpec := { name := "freeLoops", fn := fun _ => fun
  | [d1, d2, d3] => { results := [.lit (.bool false)], args := [d1, d2, d3] }
  | _ => none }
def FreeLoopsWrongFalsely : Prop := freeLoopsRow.holds Tryz.pinned (OpenSpec.ofChange freeLoopsWrong)

/-- 'copyholdlaw8.StoreNumbers': WHATEVER THE INPUT: true; the input reads as it did. -/
def storeNumbersSpec : ChangeSpec := { name := "storeNumbers", fn := fun _ => fun
  | [d1, d2, d3] => { results := [.lit (.bool true)], args := [d1, d2, d3] }
  | _ => none }
def storeNumbersRow : OpenClaim := { program := "ytkcfmjlcijhieaagreat", sum := "b660a61a021c50c930f4402410c07574a2761ec84cd6f3343595064fb752a2e1", func := "copyhold/copyholdlaw8.StoreNumbers", spec := "storeNumbers", inPlace := ["slices.overlaps[int]", "internal/reflectlite.TypeOf"], unfollowed := true, recurses := true, apart := false }
def StoreNumbersSaid : Prop := storeNumbersRow.holds Tryz.pinned (OpenSpec.ofChange storeNumbersSpec)

/-- ITS FALSE NEIGHBOUR: 'it returns false'. Refute it at one input. -/
def storeNumbersWrong : ChangeSpec := { name := "storeNumbers", fn := fun _ => fun
  | [d1, d2, d3] => { results := [.lit (.bool false)], args := [d1, d2, d3] }
  | _ => none }
def StoreNumbersWrongFalsely : Prop := storeNumbersRow.holds Tryz.pinned (OpenSpec.ofChange storeNumbersWrong)

/-- 'copyholdlaw8.StoreMany': WHATEVER THE INPUT: true; the input reads as it did. -/
def storeManySpec : ChangeSpec := { name := "storeMany", fn := fun _ => fun
  | [d] => { results := [.lit (.bool true)], args := [d] }
  | _ => none }
def storeManyRow : OpenClaim := { program := "ytkcfmjlcijhieaagreat", sum := "b660a61a021c50c930f4402410c07574a2761ec84cd6f3343595064fb752a2e1", func := "copyhold/copyholdlaw8.StoreMany", spec := "storeMany", inPlace := ["slices.overlaps[int]", "internal/reflectlite.TypeOf"], unfollowed := true, recurses := true, apart := false }
def StoreManySaid : Prop := storeManyRow.holds Tryz.pinned (OpenSpec.ofChange storeManySpec)

/-- ITS FALSE NEIGHBOUR: 'it returns false'. Refute it at one input. -/
def storeManyWrong : ChangeSpec := { name := "storeMany", fn := fun _ => fun
  | [d] => { results := [.lit (.bool false)], args := [d] }
  | _ => none }
def StoreManyWrongFalsely : Prop := storeManyRow.holds Tryz.pinned (OpenSpec.ofChange storeManyWrong)

/-- 'copyholdlaw8.StoreRuns': WHATEVER THE INPUT: true; the input reads as it did. -/
def storeRunsSpec : ChangeSpec := { name := "storeRuns", fn := fun _ => fun
  | [d1, d2] => { results := [.lit (.bool true)], args := [d1, d2] }
  | _ => none }
def storeRunsRow : OpenClaim := { program := "ytkcfmjlcijhieaagreat", sum := "b660a61a021c50c930f4402410c07574a2761ec84cd6f3343595064fb752a2e1", func := "copyhold/copyholdlaw8.StoreRuns", spec := "storeRuns", inPlace := ["slices.overlaps[int]", "internal/reflectlite.TypeOf"], unfollowed := true, recurses := true, apart := false }
def StoreRunsSaid : Prop := storeRunsRow.holds Tryz.pinned (OpenSpec.ofChange storeRunsSpec)

/-- ITS FALSE NEIGHBOUR: 'it returns false'. Refute it at one input. -/
def storeRunsWrong : ChangeSpec := { name := "storeRuns", fn := fun _ => fun
  | [d1, d2] => { results := [.lit (.bool false)], args := [d1, d2] }
  | _ => none }
def StoreRunsWrongFalsely : Prop := storeRunsRow.holds Tryz.pinned (OpenSpec.ofChange storeRunsWrong)

/-- 'copyholdlaw8.StoreKeeps': WHATEVER THE INPUT: true; the input reads as it did. -/
def storeKeepsSpec : ChangeSpec := { name := "storeKeeps", fn := fun _ => fun
  | [d1, d2, d3] => { results := [.lit (.bool true)], args := [d1, d2, d3] }
  | _ => none }
def storeKeepsRow : OpenClaim := { program := "ytkcfmjlcijhieaagreat", sum := "b660a61a021c50c930f4402410c07574a2761ec84cd6f3343595064fb752a2e1", func := "copyhold/copyholdlaw8.StoreKeeps", spec := "storeKeeps", inPlace := ["slices.overlaps[int]", "internal/reflectlite.TypeOf"], unfollowed := true, recurses := true, apart := false }
def StoreKeepsSaid : Prop := storeKeepsRow.holds Tryz.pinned (OpenSpec.ofChange storeKeepsSpec)

/-- ITS FALSE NEIGHBOUR: 'it returns false'. Refute it at one input. -/
def storeKeepsWrong : ChangeSpec := { name := "storeKeeps", fn := fun _ => fun
  | [d1, d2, d3] => { results := [.lit (.bool false)], args := [d1, d2, d3] }
  | _ => none }
def StoreKeepsWrongFalsely : Prop := storeKeepsRow.holds Tryz.pinned (OpenSpec.ofChange storeKeepsWrong)

/-- 'copyholdlaw13.OverSizes': WHATEVER THE INPUT: true; the input reads as it did. -/
def overSizesSpec : ChangeSpec := { name := "overSizes", fn := fun _ => fun
  | [d] => { results := [.lit (.bool true)], args := [d] }
  | _ => none }
def overSizesRow : OpenClaim := { program := "ytkcfmjlcijhieaagreat", sum := "b660a61a021c50c930f4402410c07574a2761ec84cd6f3343595064fb752a2e1", func := "copyhold/copyholdlaw13.OverSizes", spec := "overSizes", inPlace := ["slices.overlaps[int]", "internal/reflectlite.TypeOf"], unfollowed := true, recurses := true, apart := false }
def OverSizesSaid : Prop := overSizesRow.holds Tryz.pinned (OpenSpec.ofChange overSizesSpec)

/-- ITS FALSE NEIGHBOUR: 'it returns false'. Refute it at one input. -/
def overSizesWrong : ChangeSpec := { name := "overSizes", fn := fun _ => fun
  | [d] => { results := [.lit (.bool false)], args := [d] }
  | _ => none }
def OverSizesWrongFalsely : Prop := overSizesRow.holds Tryz.pinned (OpenSpec.ofChange overSizesWrong)

/-- 'copyholdlaw13.OverBack': WHATEVER THE INPUT: true; the input reads as it did. -/
def overBackSpec : ChangeSpec := { name := "overBack", fn := fun _ => fun
  | [d1, d2] => { results := [.lit (.bool true)], args := [d1, d2] }
  | _ => none }
def overBackRow : OpenClaim := { program := "ytkcfmjlcijhieaagreat", sum := "b660a61a021c50c930f4402410c07574a2761ec84cd6f3343595064fb752a2e1", func := "copyhold/copyholdlaw13.OverBack", spec := "overBack", inPlace := ["slices.overlaps[int]", "internal/reflectlite.TypeOf"], unfollowed := true, recurses := true, apart := false }
def OverBackSaid : Prop := overBackRow.holds Tryz.pinned (OpenSpec.ofChange overBackSpec)

/-- ITS FALSE NEIGHBOUR: 'it returns false'. Refute it at one input. -/
def overBackWrong : ChangeSpec := { name := "overBack", fn := fun _ => fun
  | [d1, d2] => { results := [.lit (.bool false)], args := [d1, d2] }
  | _ => none }
def OverBackWrongFalsely : Prop := overBackRow.holds Tryz.pinned (OpenSpec.ofChange overBackWrong)

/-- 'copyholdlaw14.DupSets': WHATEVER THE INPUT: true; the input reads as it did. -/
def dupSetsSpec : ChangeSpec := { name := "dupSets", fn := fun _ => fun
  | [d1, d2] => { results := [.lit (.bool true)], args := [d1, d2] }
  | _ => none }
def dupSetsRow : OpenClaim := { program := "ytkcfmjlcijhieaagreat", sum := "b660a61a021c50c930f4402410c07574a2761ec84cd6f3343595064fb752a2e1", func := "copyhold/copyholdlaw14.DupSets", spec := "dupSets", inPlace := ["slices.overlaps[int]", "slices.overlaps[string]", "internal/reflectlite.TypeOf"], unfollowed := true, recurses := true, apart := false }
def DupSetsSaid : Prop := dupSetsRow.holds Tryz.pinned (OpenSpec.ofChange dupSetsSpec)

/-- ITS FALSE NEIGHBOUR: 'it returns false'. Refute it at one input. -/
def dupSetsWrong : ChangeSpec := { name := "dupSets", fn := fun _ => fun
  | [d1, d2] => { results := [.lit (.bool false)], args := [d1, d2] }
  | _ => none }
def DupSetsWrongFalsely : Prop := dupSetsRow.holds Tryz.pinned (OpenSpec.ofChange dupSetsWrong)

/-- 'copyholdlaw14.DupBack': WHATEVER THE INPUT: true; the input reads as it did. -/
def dupBackSpec : ChangeSpec := { name := "dupBack", fn := fun _ => fun
  | [d] => { results := [.lit (.bool true)], args := [d] }
  | _ => none }
def dupBackRow : OpenClaim := { program := "ytkcfmjlcijhieaagreat", sum := "b660a61a021c50c930f4402410c07574a2761ec84cd6f3343595064fb752a2e1", func := "copyhold/copyholdlaw14.DupBack", spec := "dupBack", inPlace := ["slices.overlaps[int]", "slices.overlaps[string]", "internal/reflectlite.TypeOf"], unfollowed := true, recurses := true, apart := false }
def DupBackSaid : Prop := dupBackRow.holds Tryz.pinned (OpenSpec.ofChange dupBackSpec)

/-- ITS FALSE NEIGHBOUR: 'it returns false'. Refute it at one input. -/
def dupBackWrong : ChangeSpec := { name := "dupBack", fn := fun _ => fun
  | [d] => { results := [.lit (.bool false)], args := [d] }
  | _ => none }
def DupBackWrongFalsely : Prop := dupBackRow.holds Tryz.pinned (OpenSpec.ofChange dupBackWrong)

/-- 'copyholdlaw14.DupElder': WHATEVER THE INPUT: true; the input reads as it did. -/
def dupElderSpec : ChangeSpec := { name := "dupElder", fn := fun _ => fun
  | [d1, d2, d3] => { results := [.lit (.bool true)], args := [d1, d2, d3] }
  | _ => none }
def dupElderRow : OpenClaim := { program := "ytkcfmjlcijhieaagreat", sum := "b660a61a021c50c930f4402410c07574a2761ec84cd6f3343595064fb752a2e1", func := "copyhold/copyholdlaw14.DupElder", spec := "dupElder", inPlace := ["slices.overlaps[int]", "slices.overlaps[string]", "internal/reflectlite.TypeOf"], unfollowed := true, recurses := true, apart := false }
def DupElderSaid : Prop := dupElderRow.holds Tryz.pinned (OpenSpec.ofChange dupElderSpec)

/-- ITS FALSE NEIGHBOUR: 'it returns false'. Refute it at one input. -/
def dupElderWrong : ChangeSpec := { name := "dupElder", fn := fun _ => fun
  | [d1, d2, d3] => { results := [.lit (.bool false)], args := [d1, d2, d3] }
  | _ => none }
def DupElderWrongFalsely : Prop := dupElderRow.holds Tryz.pinned (OpenSpec.ofChange dupElderWrong)

/- THE SECOND FORM. 'bulk': how many values and letters a reading holds, each counted each time it is reached (what is shared counts as often as it is met; a slice's spare places count too). A statement '..UptoSaid' is the law's where the arguments, and the package variables that the reading takes, are together of bulk at most 1048576: NARROWER than '..Said'. Prove '..Said' where nothing that the law and all that it calls make is longer than what came in: it says more and counts as full. Else prove '..UptoSaid'. A law counts once. -/
mutual
def uptoBulk {H : Type} : DataW H → Nat
  | .lit (.string bytes) => bytes.length + 1
  | .lit _ => 1
  | .nil => 1
  | .ptr d => uptoBulk d + 1
  | .slice elems spare => uptoBulkAll elems + uptoBulkAll spare + 1
  | .agg parts => uptoBulkAll parts + 1
  | .iface _ d => uptoBulk d + 1
  | .map entries => uptoBulkEntries entries + 1
  | .held _ => 1
def uptoBulkAll {H : Type} : List (DataW H) → Nat
  | [] => 0
  | d :: r => uptoBulk d + uptoBulkAll r
def uptoBulkEntries {H : Type} : List (Lit × DataW H) → Nat
  | [] => 0
  | x :: r => uptoBulkEntry x + uptoBulkEntries r
def uptoBulkEntry {H : Type} : Lit × DataW H → Nat
  | (.string bytes, d) => bytes.length + uptoBulk d + 1
  | (_, d) => uptoBulk d + 1
 end
def uptoSmall : (H : Type) → List (DataW H) → Bool := fun _ ds => decide (uptoBulkAll ds ≤ 1048576)
def OpenSpec.upto (s : _root_.Go.ChangeSpec) : _root_.Go.OpenSpec := { _root_.Go.OpenSpec.ofChange s with cond := some uptoSmall }

/-- 'copyholdlaw18.FreeBack', WHERE WHAT IT READS IS OF BULK AT MOST 1048576: true; the input reads as it did. -/
def freeBackUptoRow : OpenClaim := { program := "ytkcfmjlcijhieaagreat", sum := "b660a61a021c50c930f4402410c07574a2761ec84cd6f3343595064fb752a2e1", func := "copyhold/copyholdlaw18.FreeBack", spec := "freeBack", inPlace := ["slices.overlaps[int]", "internal/reflectlite.TypeOf"], unfollowed := true, recurses := true, apart := false, narrowed := true }
def FreeBackUptoSaid : Prop := freeBackUptoRow.holds Tryz.pinned (OpenSpec.upto freeBackSpec)

/-- 'copyholdlaw18.FreeParts', WHERE WHAT IT READS IS OF BULK AT MOST 1048576: true; the input reads as it did. -/
def freePartsUptoRow : OpenClaim := { program := "ytkcfmjlcijhieaagreat", sum := "b660a61a021c50c930f4402410c07574a2761ec84cd6f3343595064fb752a2e1", func := "copyhold/copyholdlaw18.FreeParts", spec := "freeParts", inPlace := ["slices.overlaps[int]", "internal/reflectlite.TypeOf"], unfollowed := true, recurses := true, apart := false, narrowed := true }
def FreePartsUptoSaid : Prop := freePartsUptoRow.holds Tryz.pinned (OpenSpec.upto freePartsSpec)

/-- 'copyholdlaw18.FreeLoops', WHERE WHAT IT READS IS OF BULK AT MOST 1048576: true; the input reads as it did. -/
def freeLoopsUptoRow : OpenClaim := { program := "ytkcfmjlcijhieaagreat", sum := "b660a61a021c50c930f4402410c07574a2761ec84cd6f3343595064fb752a2e1", func := "copyhold/copyholdlaw18.FreeLoops", spec := "freeLoops", inPlace := ["slices.overlaps[int]", "internal/reflectlite.TypeOf"], unfollowed := true, recurses := true, apart := false, narrowed := true }
def FreeLoopsUptoSaid : Prop := freeLoopsUptoRow.holds Tryz.pinned (OpenSpec.upto freeLoopsSpec)

/-- 'copyholdlaw8.StoreNumbers', WHERE WHAT IT READS IS OF BULK AT MOST 1048576: true; the input reads as it did. -/
def storeNumbersUptoRow : OpenClaim := { program := "ytkcfmjlcijhieaagreat", sum := "b660a61a021c50c930f4402410c07574a2761ec84cd6f3343595064fb752a2e1", func := "copyhold/copyholdlaw8.StoreNumbers", spec := "storeNumbers", inPlace := ["slices.overlaps[int]", "internal/reflectlite.TypeOf"], unfollowed := true, recurses := true, apart := false, narrowed := true }
def StoreNumbersUptoSaid : Prop := storeNumbersUptoRow.holds Tryz.pinned (OpenSpec.upto storeNumbersSpec)

/-- 'copyholdlaw8.StoreMany', WHERE WHAT IT READS IS OF BULK AT MOST 1048576: true; the input reads as it did. -/
def storeManyUptoRow : OpenClaim := { program := "ytkcfmjlcijhieaagreat", sum := "b660a61a021c50c930f4402410c07574a2761ec84cd6f3343595064fb752a2e1", func := "copyhold/copyholdlaw8.StoreMany", spec := "storeMany", inPlace := ["slices.overlaps[int]", "internal/reflectlite.TypeOf"], unfollowed := true, recurses := true, apart := false, narrowed := true }
def StoreManyUptoSaid : Prop := storeManyUptoRow.holds Tryz.pinned (OpenSpec.upto storeManySpec)

/-- 'copyholdlaw8.StoreRuns', WHERE WHAT IT READS IS OF BULK AT MOST 1048576: true; the input reads as it did. -/
def storeRunsUptoRow : OpenClaim := { program := "ytkcfmjlcijhieaagreat", sum := "b660a61a021c50c930f4402410c07574a2761ec84cd6f3343595064fb752a2e1", func := "copyhold/copyholdlaw8.StoreRuns", spec := "storeRuns", inPlace := ["slices.overlaps[int]", "internal/reflectlite.TypeOf"], unfollowed := true, recurses := true, apart := false, narrowed := true }
def StoreRunsUptoSaid : Prop := storeRunsUptoRow.holds Tryz.pinned (OpenSpec.upto storeRunsSpec)

/-- 'copyholdlaw8.StoreKeeps', WHERE WHAT IT READS IS OF BULK AT MOST 1048576: true; the input reads as it did. -/
def storeKeepsUptoRow : OpenClaim := { program := "ytkcfmjlcijhieaagreat", sum := "b660a61a021c50c930f4402410c07574a2761ec84cd6f3343595064fb752a2e1", func := "copyhold/copyholdlaw8.StoreKeeps", spec := "storeKeeps", inPlace := ["slices.overlaps[int]", "internal/reflectlite.TypeOf"], unfollowed := true, recurses := true, apart := false, narrowed := true }
def StoreKeepsUptoSaid : Prop := storeKeepsUptoRow.holds Tryz.pinned (OpenSpec.upto storeKeepsSpec)

/-- 'copyholdlaw13.OverSizes', WHERE WHAT IT READS IS OF BULK AT MOST 1048576: true; the input reads as it did. -/
def overSizesUptoRow : OpenClaim := { program := "ytkcfmjlcijhieaagreat", sum := "b660a61a021c50c930f4402410c07574a2761ec84cd6f3343595064fb752a2e1", func := "copyhold/copyholdlaw13.OverSizes", spec := "overSizes", inPlace := ["slices.overlaps[int]", "internal/reflectlite.TypeOf"], unfollowed := true, recurses := true, apart := false, narrowed := true }
def OverSizesUptoSaid : Prop := overSizesUptoRow.holds Tryz.pinned (OpenSpec.upto overSizesSpec)

/-- 'copyholdlaw13.OverBack', WHERE WHAT IT READS IS OF BULK AT MOST 1048576: true; the input reads as it did. -/
def overBackUptoRow : OpenClaim := { program := "ytkcfmjlcijhieaagreat", sum := "b660a61a021c50c930f4402410c07574a2761ec84cd6f3343595064fb752a2e1", func := "copyhold/copyholdlaw13.OverBack", spec := "overBack", inPlace := ["slices.overlaps[int]", "internal/reflectlite.TypeOf"], unfollowed := true, recurses := true, apart := false, narrowed := true }
def OverBackUptoSaid : Prop := overBackUptoRow.holds Tryz.pinned (OpenSpec.upto overBackSpec)

/-- 'copyholdlaw14.DupSets', WHERE WHAT IT READS IS OF BULK AT MOST 1048576: true; the input reads as it did. -/
def dupSetsUptoRow : OpenClaim := { program := "ytkcfmjlcijhieaagreat", sum := "b660a61a021c50c930f4402410c07574a2761ec84cd6f3343595064fb752a2e1", func := "copyhold/copyholdlaw14.DupSets", spec := "dupSets", inPlace := ["slices.overlaps[int]", "slices.overlaps[string]", "internal/reflectlite.TypeOf"], unfollowed := true, recurses := true, apart := false, narrowed := true }
def DupSetsUptoSaid : Prop := dupSetsUptoRow.holds Tryz.pinned (OpenSpec.upto dupSetsSpec)

/-- 'copyholdlaw14.DupBack', WHERE WHAT IT READS IS OF BULK AT MOST 1048576: true; the input reads as it did. -/
def dupBackUptoRow : OpenClaim := { program := "ytkcfmjlcijhieaagreat", sum := "b660a61a021c50c930f4402410c07574a2761ec84cd6f3343595064fb752a2e1", func := "copyhold/copyholdlaw14.DupBack", spec := "dupBack", inPlace := ["slices.overlaps[int]", "slices.overlaps[string]", "internal/reflectlite.TypeOf"], unfollowed := true, recurses := true, apart := false, narrowed := true }
def DupBackUptoSaid : Prop := dupBackUptoRow.holds Tryz.pinned (OpenSpec.upto dupBackSpec)

/-- 'copyholdlaw14.DupElder', WHERE WHAT IT READS IS OF BULK AT MOST 1048576: true; the input reads as it did. -/
def dupElderUptoRow : OpenClaim := { program := "ytkcfmjlcijhieaagreat", sum := "b660a61a021c50c930f4402410c07574a2761ec84cd6f3343595064fb752a2e1", func := "copyhold/copyholdlaw14.DupElder", spec := "dupElder", inPlace := ["slices.overlaps[int]", "slices.overlaps[string]", "internal/reflectlite.TypeOf"], unfollowed := true, recurses := true, apart := false, narrowed := true }
def DupElderUptoSaid : Prop := dupElderUptoRow.holds Tryz.pinned (OpenSpec.upto dupElderSpec)

end Rows
end Go.Proofs.YtkcfmjlcijhieaaGreat
