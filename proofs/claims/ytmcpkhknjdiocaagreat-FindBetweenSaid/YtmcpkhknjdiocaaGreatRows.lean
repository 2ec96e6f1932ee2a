/-
  No cell of these rows narrows 'for every input' (looked for: loops, veiled, ifaces, maps, wideKeys, modest, calm, conditions, laid).
  DERIVED. THE GIVEN ROWS OF THIS SEAT. 8 by the template 'for every input the law returns true; each argument reads behind the call as it read before'; 0 by the template 'total and deterministic' (their statements: YtmcpkhknjdiocaaGreatTotals.lean).
  GIVEN WITH THE SEED: the statements are not yours to turn. If you find one false, say at which input.
  Laid BY PROGRAM, IN A SANDBOX (cutbox-rows.mjs): the forced cells as the released guide's own fill.sh prints them over the translation f42def516caaa7a3… (all of the seat's roots in one cut). By AI agents, Wed Nov 11 2026. No macro, syntax, notation, axiom, sorry.
-/
import Derived.Test.YtmcpkhknjdiocaaGreatChecked
import GoSem.Claim
import GoSem.ClaimJoined
import GoSem.ClaimMapViews
import Derived.JoinedTies
import Derived.KernelRfl
namespace Go.Proofs.YtmcpkhknjdiocaaGreat
/- THE CELL 'sum', in the pinned program and in every row, IS THE sha256 OF THE DUMP (.gsa) THAT YtmcpkhknjdiocaaGreatProg.lean LOADS. Nothing in Lean hashes anything: it is a label: what it is worth is what the hold of that sum in a sandbox is worth. -/
noncomputable def Tryz.pinned : Pinned := { name := "ytmcpkhknjdiocaagreat", sum := "f42def516caaa7a3f4d59aab10999d8e1b2f75c829e9e038524efb1951df7918", checked := Tryz.checked }
namespace Rows
def none {H : Type} : Left H := { results := [], args := [] }

/-- 'copyholdlaw22.ReaderLast': WHATEVER THE INPUT: true; the input reads as it did. -/
def readerLastSpec : ChangeSpec := { name := "readerLast", fn := fun _ => fun
  | [d1, d2] => { results := [.lit (.bool true)], args := [d1, d2] }
  | _ => none }
def readerLastRow : OpenClaim := { program := "ytmcpkhknjdiocaagreat", sum := "f42def516caaa7a3f4d59aab10999d8e1b2f75c829e9e038524efb1951df7918", func := "copyhold/copyholdlaw22.ReaderLast", spec := "readerLast", inPlace := ["internal/reflectlite.TypeOf"], unfollowed := true, recurses := true, apart := false }
def ReaderLastSaid : Prop := readerLastRow.holds Tryz.pinned (OpenSpec.ofChange readerLastSpec)

/-- ITS FALSE NEIGHBOUR: 'it returns false'. Refute it at one input. -/
def readerLastWrong : ChangeSpec := { name := "readerLast", fn := fun _ => fun
  | [d1, d2] => { results := [.lit (.bool false)], args := [d1, d2] }
  | _ => none }
def ReaderLastWrongFalsely : Prop := readerLastRow.holds Tryz.pinned (OpenSpec.ofChange readerLastWrong)

/-- 'copyholdlaw22.ReaderRefused': WHATEVER THE INPUT: true; the input reads as it did. -/
def readerRefusedSpec : ChangeSpec := { name := "readerRefused", fn := fun _ => fun
  | [d1, d2, d3, d4] => { results := [.lit (.bool true)], args := [d1, d2, d3, d4] }
  | _ => none }
def readerRefusedRow : OpenClaim := { program := "ytmcpkhknjdiocaagreat", sum := "f42def516caaa7a3f4d59aab10999d8e1b2f75c829e9e038524efb1951df7918", func := "copyhold/copyholdlaw22.ReaderRefused", spec := "readerRefused", inPlace := ["internal/reflectlite.TypeOf"], unfollowed := true, recurses := true, apart := false }
def ReaderRefusedSaid : Prop := readerRefusedRow.holds Tryz.pinned (OpenSpec.ofChange readerRefusedSpec)

/-- ITS FALSE NEIGHBOUR: 'it returns false'. Refute it at one input. -/
def readerRefusedWrong : ChangeSpec := { name := "readerRefused", fn := fun _ => fun
  | [d1, d2, d3, d4] => { results := [.lit (.bool false)], args := [d1, d2, d3, d4] }
  | _ => none }
def ReaderRefusedWrongFalsely : Prop := readerRefusedRow.holds Tryz.pinned (OpenSpec.ofChange readerRefusedWrong)

/-- 'copyholdlaw10.FindWalks': WHATEVER THE INPUT: true; the input reads as it did. -/
def findWalksSpec : ChangeSpec := { name := "findWalks", fn := fun _ => fun
  | [d] => { results := [.lit (.bool true)], args := [d] }
  | _ => none }
def findWalksRow : OpenClaim := { program := "ytmcpkhknjdiocaagreat", sum := "f42def516caaa7a3f4d59aab10999d8e1b2f75c829e9e038524efb1951df7918", func := "copyhold/copyholdlaw10.FindWalks", spec := "findWalks", inPlace := ["slices.overlaps[int]", "internal/reflectlite.TypeOf"], unfollowed := true, recurses := true, apart := false }
def FindWalksSaid : Prop := findWalksRow.holds Tryz.pinned (OpenSpec.ofChange findWalksSpec)

/-- ITS FALSE NEIGHBOUR: 'it returns false'. Refute it at one input. -/
def findWalksWrong : ChangeSpec := { name := "findWalks", fn := fun _ => fun
  | [d] => { results := [.lit (.bool false)], args := [d] }
  | _ => none }
def FindWalksWrongFalsely : Prop := findWalksRow.holds Tryz.pinned (OpenSpec.ofChange findWalksWrong)

/-- 'copyholdlaw10.FindBetween': WHATEVER THE INPUT: true; the input reads as it did. -/
def findBetweenSpec : ChangeSpec := { name := "findBetween", fn := fun _ => fun
  | [d1, d2] => { results := [.lit (.bool true)], args := [d1, d2] }
  | _ => none }
def findBetweenRow : OpenClaim := { program := "ytmcpkhknjdiocaagreat", sum := "f42def516caaa7a3f4d59aab10999d8e1b2f75c829e9e038524efb1951df7918", func := "copyhold/copyholdlaw10.FindBetween", spec := "findBetween", inPlace := ["slices.overlaps[int]", "internal/reflectlite.TypeOf"], unfollowed := true, recurses := true, apart := false }
def FindBetweenSaid : Prop := findBetweenRow.holds Tryz.pinned (OpenSpec.ofChange findBetweenSpec)

/-- ITS FALSE NEIGHBOUR: 'it returns false'. Refute it at one input. -/
def findBetweenWrong : ChangeSpec := { name := "findBetween", fn := fun _ => fun
  | [d1, d2] => { results := [.lit (.bool false)], args := [d1, d2] }
  | _ => none }
def FindBetweenWrongFalsely : Prop := findBetweenRow.holds Tryz.pinned (OpenSpec.ofChange findBetweenWrong)

/-- 'copyholdlaw10.FindAll': WHATEVER THE INPUT: true; the input reads as it did. -/
def findAllSpec : ChangeSpec := { name := "findAll", fn := fun _ => fun
  | [d] => { results := [.lit (.bool true)], args := [d] }
  | _ => none }
def findAllRow : OpenClaim := { program := "ytmcpkhknjdiocaagreat", sum := "f42def516caaa7a3f4d59aab10999d8e1b2f75c829e9e038524efb1951df7918", func := "copyhold/copyholdlaw10.FindAll", spec := "findAll", inPlace := ["slices.overlaps[int]", "internal/reflectlite.TypeOf"], unfollowed := true, recurses := true, apart := false }
def FindAllSaid : Prop := findAllRow.holds Tryz.pinned (OpenSpec.ofChange findAllSpec)

/-- ITS FALSE NEIGHBOUR: 'it returns false'. Refute it at one input. -/
def findAllWrong : ChangeSpec := { name := "findAll", fn := fun _ => fun
  | [d] => { results := [.lit (.bool false)], args := [d] }
  | _ => none }
def FindAllWrongFalsely : Prop := findAllRow.holds Tryz.pinned (OpenSpec.ofChange findAllWrong)

/-- 'copyholdlaw17.WalkAll': WHATEVER THE INPUT: true; the input reads as it did. -/
def walkAllSpec : ChangeSpec := { name := "walkAll", fn := fun _ => fun
  | [d1, d2] => { results := [.lit (.bool true)], args := [d1, d2] }
  | _ => none }
def walkAllRow : OpenClaim := { program := "ytmcpkhknjdiocaagreat", sum := "f42def516caaa7a3f4d59aab10999d8e1b2f75c829e9e038524efb1951df7918", func := "copyhold/copyholdlaw17.WalkAll", spec := "walkAll", inPlace := ["slices.overlaps[int]", "internal/reflectlite.TypeOf"], unfollowed := true, recurses := true, apart := false }
def WalkAllSaid : Prop := walkAllRow.holds Tryz.pinned (OpenSpec.ofChange walkAllSpec)

/-- ITS FALSE NEIGHBOUR: 'it returns false'. Refute it at one input. -/
def walkAllWrong : ChangeSpec := { name := "walkAll", fn := fun _ => fun
  | [d1, d2] => { results := [.lit (.bool false)], args := [d1, d2] }
  | _ => none }
def WalkAllWrongFalsely : Prop := walkAllRow.holds Tryz.pinned (OpenSpec.ofChange walkAllWrong)

/-- 'copyholdlaw17.WalkSeeks': WHATEVER THE INPUT: true; the input reads as it did. -/
def walkSeeksSpec : ChangeSpec := { name := "walkSeeks", fn := fun _ => fun
  | [d1, d2, d3] => { results := [.lit (.bool true)], args := [d1, d2, d3] }
  | _ => none }
def walkSeeksRow : OpenClaim := { program := "ytmcpkhknjdiocaagreat", sum := "f42def516caaa7a3f4d59aab10999d8e1b2f75c829e9e038524efb1951df7918", func := "copyhold/copyholdlaw17.WalkSeeks", spec := "walkSeeks", inPlace := ["slices.overlaps[int]", "internal/reflectlite.TypeOf"], unfollowed := true, recurses := true, apart := false }
def WalkSeeksSaid : Prop := walkSeeksRow.holds Tryz.pinned (OpenSpec.ofChange walkSeeksSpec)

/-- ITS FALSE NEIGHBOUR: 'it returns false'. Refute it at one input. -/
def walkSeeksWrong : ChangeSpec := { name := "walkSeeks", fn := fun _ => fun
  | [d1, d2, d3] => { results := [.lit (.bool false)], args := [d1, d2, d3] }
  | _ => none }
def WalkSeeksWrongFalsely : Prop := walkSeeksRow.holds Tryz.pinned (OpenSpec.ofChange walkSeeksWrong)

/-- 'copyholdlaw17.WalkLong': WHATEVER THE INPUT: true; the input reads as it did. -/
def walkLongSpec : ChangeSpec := { name := "walkLong", fn := fun _ => fun
  | [d1, d2] => { results := [.lit (.bool true)], args := [d1, d2] }
  | _ => none }
def walkLongRow : OpenClaim := { program := "ytmcpkhknjdiocaagreat", sum := "f42def516caaa7a3f4d59aab10999d8e1b2f75c829e9e038524efb1951df7918", func := "copyhold/copyholdlaw17.WalkLong", spec := "walkLong", inPlace := ["slices.overlaps[int]", "internal/reflectlite.TypeOf"], unfollowed := true, recurses := true, apart := false }
def WalkLongSaid : Prop := walkLongRow.holds Tryz.pinned (OpenSpec.ofChange walkLongSpec)

/-- ITS FALSE NEIGHBOUR: 'it returns false'. Refute it at one input. -/
def walkLongWrong : ChangeSpec := { name := "walkLong", fn := fun _ => fun
  | [d1, d2] => { results := [.lit (.bool false)], args := [d1, d2] }
  | _ => none }
def WalkLongWrongFalsely : Prop := walkLongRow.holds Tryz.pinned (OpenSpec.ofChange walkLongWrong)

/- THE SECOND FORM. 'bulk': how many values and letters a reading holds, each counted each time it is reached (what is shared counts as often as it is met; a slice's spare places count too). A statement '..UptoSaid' is the law's where the arguments, and the package variables that the reading takes, are together of bulk at most 1048576: NARROWER than '..Said'. Prove '..Said' where nothing that the law and all that it calls make is longer than what came in: it says more and counts as full. Else prove '..UptoSaid'. A law counts once. -/
mutual
def uptoBulk {H : Type} : DataW H → Nat
  | .lit (.string bytes) => bytes.length + 1
  | .lit _ => 1
  | .nil => 1
  | .ptr d => uptoBulk d + 1
  | .slice elems spare => uptoBulkAll elems + uptoBulkAll spare + 1
  | .agg parts => uptoBulkAll parts + 1
  | .iface _ d => uptoBulk d + 1
  | .map entries => uptoBulkEntries entries + 1
  | .held _ => 1
def uptoBulkAll {H : Type} : List (DataW H) → Nat
  | [] => 0
  | d :: r => uptoBulk d + uptoBulkAll r
def uptoBulkEntries {H : Type} : List (Lit × DataW H) → Nat
  | [] => 0
  | x :: r => uptoBulkEntry x + uptoBulkEntries r
def uptoBulkEntry {H : Type} : Lit × DataW H → Nat
  | (.string bytes, d) => bytes.length + uptoBulk d + 1
  | (_, d) => uptoBulk d + 1
 end
def uptoSmall : (H : Type) → List (DataW H) → Bool := fun _ ds => decide (uptoBulkAll ds ≤ 1048576)
def OpenSpec.upto (s : _root_.Go.ChangeSpec) : _root_.Go.OpenSpec := { _root_.Go.OpenSpec.ofChange s with cond := some uptoSmall }

/-- 'copyholdlaw22.ReaderLast', WHERE WHAT IT READS IS OF BULK AT MOST 1048576: true; the input reads as it did. -/
def readerLastUptoRow : OpenClaim := { program := "ytmcpkhknjdiocaagreat", sum := "f42def516caaa7a3f4d59aab10999d8e1b2f75c829e9e038524efb1951df7918", func := "copyhold/copyholdlaw22.ReaderLast", spec := "readerLast", inPlace := ["internal/reflectlite.TypeOf"], unfollowed := true, recurses := true, apart := false, narrowed := true }
def ReaderLastUptoSaid : Prop := readerLastUptoRow.holds Tryz.pinned (OpenSpec.upto readerLastSpec)

/-- 'copyholdlaw22.ReaderRefused', WHERE WHAT IT READS IS OF BULK AT MOST 1048576: true; the input reads as it did. -/
def readerRefusedUptoRow : OpenClaim := { program := "ytmcpkhknjdiocaagreat", sum := "f42def516caaa7a3f4d59aab10999d8e1b2f75c829e9e038524efb1951df7918", func := "copyhold/copyholdlaw22.ReaderRefused", spec := "readerRefused", inPlace := ["internal/reflectlite.TypeOf"], unfollowed := true, recurses := true, apart := false, narrowed := true }
def ReaderRefusedUptoSaid : Prop := readerRefusedUptoRow.holds Tryz.pinned (OpenSpec.upto readerRefusedSpec)

/-- 'copyholdlaw10.FindWalks', WHERE WHAT IT READS IS OF BULK AT MOST 1048576: true; the input reads as it did. -/
def findWalksUptoRow : OpenClaim := { program := "ytmcpkhknjdiocaagreat", sum := "f42def516caaa7a3f4d59aab10999d8e1b2f75c829e9e038524efb1951df7918", func := "copyhold/copyholdlaw10.FindWalks", spec := "findWalks", inPlace := ["slices.overlaps[int]", "internal/reflectlite.TypeOf"], unfollowed := true, recurses := true, apart := false, narrowed := true }
def FindWalksUptoSaid : Prop := findWalksUptoRow.holds Tryz.pinned (OpenSpec.upto findWalksSpec)

/-- 'copyholdlaw10.FindBetween', WHERE WHAT IT READS IS OF BULK AT MOST 1048576: true; the input reads as it did. -/
def findBetweenUptoRow : OpenClaim := { program := "ytmcpkhknjdiocaagreat", sum := "f42def516caaa7a3f4d59aab10999d8e1b2f75c829e9e038524efb1951df7918", func := "copyhold/copyholdlaw10.FindBetween", spec := "findBetween", inPlace := ["slices.overlaps[int]", "internal/reflectlite.TypeOf"], unfollowed := true, recurses := true, apart := false, narrowed := true }
def FindBetweenUptoSaid : Prop := findBetweenUptoRow.holds Tryz.pinned (OpenSpec.upto findBetweenSpec)

/-- 'copyholdlaw10.FindAll', WHERE WHAT IT READS IS OF BULK AT MOST 1048576: true; the input reads as it did. -/
def findAllUptoRow : OpenClaim := { program := "ytmcpkhknjdiocaagreat", sum := "f42def516caaa7a3f4d59aab10999d8e1b2f75c829e9e038524efb1951df7918", func := "copyhold/copyholdlaw10.FindAll", spec := "findAll", inPlace := ["slices.overlaps[int]", "internal/reflectlite.TypeOf"], unfollowed := true, recurses := true, apart := false, narrowed := true }
def FindAllUptoSaid : Prop := findAllUptoRow.holds Tryz.pinned (OpenSpec.upto findAllSpec)

/-- 'copyholdlaw17.WalkAll', WHERE WHAT IT READS IS OF BULK AT MOST 1048576: true; the input reads as it did. -/
def walkAllUptoRow : OpenClaim := { program := "ytmcpkhknjdiocaagreat", sum := "f42def516caaa7a3f4d59aab10999d8e1b2f75c829e9e038524efb1951df7918", func := "copyhold/copyholdlaw17.WalkAll", spec := "walkAll", inPlace := ["slices.overlaps[int]", "internal/reflectlite.TypeOf"], unfollowed := true, recurses := true, apart := false, narrowed := true }
def WalkAllUptoSaid : Prop := walkAllUptoRow.holds Tryz.pinned (OpenSpec.upto walkAllSpec)

/-- 'copyholdlaw17.WalkSeeks', WHERE WHAT IT READS IS OF BULK AT MOST 1048576: true; the input reads as it did. -/
def walkSeeksUptoRow : OpenClaim := { program := "ytmcpkhknjdiocaagreat", sum := "f42def516caaa7a3f4d59aab10999d8e1b2f75c829e9e038524efb1951df7918", func := "copyhold/copyholdlaw17.WalkSeeks", spec := "walkSeeks", inPlace := ["slices.overlaps[int]", "internal/reflectlite.TypeOf"], unfollowed := true, recurses := true, apart := false, narrowed := true }
def WalkSeeksUptoSaid : Prop := walkSeeksUptoRow.holds Tryz.pinned (OpenSpec.upto walkSeeksSpec)

/-- 'copyholdlaw17.WalkLong', WHERE WHAT IT READS IS OF BULK AT MOST 1048576: true; the input reads as it did. -/
def walkLongUptoRow : OpenClaim := { program := "ytmcpkhknjdiocaagreat", sum := "f42def516caaa7a3f4d59aab10999d8e1b2f75c829e9e038524efb1951df7918", func := "copyhold/copyholdlaw17.WalkLong", spec := "walkLong", inPlace := ["slices.overlaps[int]", "internal/reflectlite.TypeOf"], unfollowed := true, recurses := true, apart := false, narrowed := true }
def WalkLongUptoSaid : Prop := walkLongUptoRow.holds Tryz.pinned (OpenSpec.upto walkLongSpec)

end Rows
end Go.Proofs.YtmcpkhknjdiocaaGreat
