/-
  No cell of these rows narrows 'for every input' (looked for: loops, veiled, ifaces, maps, wideKeys, modest, calm, conditions, laid).
  DERIVED. THE GIVEN ROWS OF THIS SEAT. 10 by the template 'for every input the law returns true; each argument reads behind the call as it read before'; 0 by the template 'total and deterministic' (their statements: YtienlhckcpfknaaTotals.lean).
  GIVEN WITH THE SEED: the statements are not yours to turn. If you find one false, say at which input.
  Laid BY PROGRAM, IN A SANDBOX (cutbox-rows.mjs): the forced cells as the released guide's own fill.sh prints them over the translation e0044243458e2996… (all of the seat's roots in one cut). By AI agents, Wed Nov 11 2026. No macro, syntax, notation, axiom, sorry.
-/
import Derived.Test.YtienlhckcpfknaaChecked
import GoSem.Claim
import GoSem.ClaimJoined
import GoSem.ClaimMapViews
import Derived.JoinedTies
import Derived.KernelRfl
namespace Go.Proofs.Ytienlhckcpfknaa
/- THE CELL 'sum', in the pinned program and in every row, IS THE sha256 OF THE DUMP (.gsa) THAT YtienlhckcpfknaaProg.lean LOADS. Nothing in Lean hashes anything: it is a label: what it is worth is what the hold of that sum in a sandbox is worth. -/
noncomputable def Try.pinned : Pinned := { name := "ytienlhckcpfknaa", sum := "e0044243458e29964bb4cff80b870611bd1e98c3a0d88f738f9c36fafc6f6d91", checked := Try.checked }
namespace Rows
def none {H : Type} : Left H := { results := [], args := [] }

/-- 'copyholdlaw2.PageTells': WHATEVER THE INPUT: true; the input reads as it did. -/
def pageTellsSpec : ChangeSpec := { name := "pageTells", fn := fun _ => fun
  | [d1, d2, d3] => { results := [.lit (.bool true)], args := [d1, d2, d3] }
  | _ => none }
def pageTellsRow : OpenClaim := { program := "ytienlhckcpfknaa", sum := "e0044243458e29964bb4cff80b870611bd1e98c3a0d88f738f9c36fafc6f6d91", func := "copyhold/copyholdlaw2.PageTells", spec := "pageTells", inPlace := ["internal/reflectlite.TypeOf"], unfollowed := true, recurses := true, apart := false }
def PageTellsSaid : Prop := pageTellsRow.holds Try.pinned (OpenSpec.ofChange pageTellsSpec)

/-- ITS FALSE NEIGHBOUR: 'it returns false'. Refute it at one input. -/
def pageTellsWrong : ChangeSpec := { name := "pageTells", fn := fun _ => fun
  | [d1, d2, d3] => { results := [.lit (.bool false)], args := [d1, d2, d3] }
  | _ => none }
def PageTellsWrongFalsely : Prop := pageTellsRow.holds Try.pinned (OpenSpec.ofChange pageTellsWrong)

/-- 'copyholdlaw2.PageBack': WHATEVER THE INPUT: true; the input reads as it did. -/
def pageBackSpec : ChangeSpec := { name := "pageBack", fn := fun _ => fun
  | [d1, d2, d3, d4] => { results := [.lit (.bool true)], args := [d1, d2, d3, d4] }
  | _ => none }
def pageBackRow : OpenClaim := { program := "ytienlhckcpfknaa", sum := "e0044243458e29964bb4cff80b870611bd1e98c3a0d88f738f9c36fafc6f6d91", func := "copyhold/copyholdlaw2.PageBack", spec := "pageBack", inPlace := ["internal/reflectlite.TypeOf"], unfollowed := true, recurses := true, apart := false }
def PageBackSaid : Prop := pageBackRow.holds Try.pinned (OpenSpec.ofChange pageBackSpec)

/-- ITS FALSE NEIGHBOUR: 'it returns false'. Refute it at one input. -/
def pageBackWrong : ChangeSpec := { name := "pageBack", fn := fun _ => fun
  | [d1, d2, d3, d4] => { results := [.lit (.bool false)], args := [d1, d2, d3, d4] }
  | _ => none }
def PageBackWrongFalsely : Prop := pageBackRow.holds Try.pinned (OpenSpec.ofChange pageBackWrong)

/-- 'copyholdlaw2.PageLeafs': WHATEVER THE INPUT: true; the input reads as it did. -/
def pageLeafsSpec : ChangeSpec := { name := "pageLeafs", fn := fun _ => fun
  | [d1, d2, d3] => { results := [.lit (.bool true)], args := [d1, d2, d3] }
  | _ => none }
def pageLeafsRow : OpenClaim := { program := "ytienlhckcpfknaa", sum := "e0044243458e29964bb4cff80b870611bd1e98c3a0d88f738f9c36fafc6f6d91", func := "copyhold/copyholdlaw2.PageLeafs", spec := "pageLeafs", inPlace := ["internal/reflectlite.TypeOf"], unfollowed := true, recurses := true, apart := false }
def PageLeafsSaid : Prop := pageLeafsRow.holds Try.pinned (OpenSpec.ofChange pageLeafsSpec)

/-- ITS FALSE NEIGHBOUR: 'it returns false'. Refute it at one input. -/
def pageLeafsWrong : ChangeSpec := { name := "pageLeafs", fn := fun _ => fun
  | [d1, d2, d3] => { results := [.lit (.bool false)], args := [d1, d2, d3] }
  | _ => none }
def PageLeafsWrongFalsely : Prop := pageLeafsRow.holds Try.pinned (OpenSpec.ofChange pageLeafsWrong)

/-- 'copyholdlaw2.PageItems': WHATEVER THE INPUT: true; the input reads as it did. -/
def pageItemsSpec : ChangeSpec := { name := "pageItems", fn := fun _ => fun
  | [d] => { results := [.lit (.bool true)], args := [d] }
  | _ => none }
def pageItemsRow : OpenClaim := { program := "ytienlhckcpfknaa", sum := "e0044243458e29964bb4cff80b870611bd1e98c3a0d88f738f9c36fafc6f6d91", func := "copyhold/copyholdlaw2.PageItems", spec := "pageItems", inPlace := ["internal/reflectlite.TypeOf"], unfollowed := true, recurses := true, apart := false }
def PageItemsSaid : Prop := pageItemsRow.holds Try.pinned (OpenSpec.ofChange pageItemsSpec)

/-- ITS FALSE NEIGHBOUR: 'it returns false'. Refute it at one input. -/
def pageItemsWrong : ChangeSpec := { name := "pageItems", fn := fun _ => fun
  | [d] => { results := [.lit (.bool false)], args := [d] }
  | _ => none }
def PageItemsWrongFalsely : Prop := pageItemsRow.holds Try.pinned (OpenSpec.ofChange pageItemsWrong)

/-- 'copyholdlaw2.PageBranches': WHATEVER THE INPUT: true; the input reads as it did. -/
def pageBranchesSpec : ChangeSpec := { name := "pageBranches", fn := fun _ => fun
  | [d1, d2, d3] => { results := [.lit (.bool true)], args := [d1, d2, d3] }
  | _ => none }
def pageBranchesRow : OpenClaim := { program := "ytienlhckcpfknaa", sum := "e0044243458e29964bb4cff80b870611bd1e98c3a0d88f738f9c36fafc6f6d91", func := "copyhold/copyholdlaw2.PageBranches", spec := "pageBranches", inPlace := ["internal/reflectlite.TypeOf"], unfollowed := true, recurses := true, apart := false }
def PageBranchesSaid : Prop := pageBranchesRow.holds Try.pinned (OpenSpec.ofChange pageBranchesSpec)

/-- ITS FALSE NEIGHBOUR: 'it returns false'. Refute it at one input. -/
def pageBranchesWrong : ChangeSpec := { name := "pageBranches", fn := fun _ => fun
  | [d1, d2, d3] => { results := [.lit (.bool false)], args := [d1, d2, d3] }
  | _ => none }
def PageBranchesWrongFalsely : Prop := pageBranchesRow.holds Try.pinned (OpenSpec.ofChange pageBranchesWrong)

/-- 'copyholdlaw2.PageFrees': WHATEVER THE INPUT: true; the input reads as it did. -/
def pageFreesSpec : ChangeSpec := { name := "pageFrees", fn := fun _ => fun
  | [d1, d2, d3] => { results := [.lit (.bool true)], args := [d1, d2, d3] }
  | _ => none }
def pageFreesRow : OpenClaim := { program := "ytienlhckcpfknaa", sum := "e0044243458e29964bb4cff80b870611bd1e98c3a0d88f738f9c36fafc6f6d91", func := "copyhold/copyholdlaw2.PageFrees", spec := "pageFrees", inPlace := ["internal/reflectlite.TypeOf"], unfollowed := true, recurses := true, apart := false }
def PageFreesSaid : Prop := pageFreesRow.holds Try.pinned (OpenSpec.ofChange pageFreesSpec)

/-- ITS FALSE NEIGHBOUR: 'it returns false'. Refute it at one input. -/
def pageFreesWrong : ChangeSpec := { name := "pageFrees", fn := fun _ => fun
  | [d1, d2, d3] => { results := [.lit (.bool false)], args := [d1, d2, d3] }
  | _ => none }
def PageFreesWrongFalsely : Prop := pageFreesRow.holds Try.pinned (OpenSpec.ofChange pageFreesWrong)

/-- 'copyholdlaw3.MetaTells': WHATEVER THE INPUT: true; the input reads as it did. -/
def metaTellsSpec : ChangeSpec := { name := "metaTells", fn := fun _ => fun
  | [d1, d2, d3, d4] => { results := [.lit (.bool true)], args := [d1, d2, d3, d4] }
  | _ => none }
def metaTellsRow : OpenClaim := { program := "ytienlhckcpfknaa", sum := "e0044243458e29964bb4cff80b870611bd1e98c3a0d88f738f9c36fafc6f6d91", func := "copyhold/copyholdlaw3.MetaTells", spec := "metaTells", inPlace := ["internal/reflectlite.TypeOf"], unfollowed := true, recurses := true, apart := false }
def MetaTellsSaid : Prop := metaTellsRow.holds Try.pinned (OpenSpec.ofChange metaTellsSpec)

/-- ITS FALSE NEIGHBOUR: 'it returns false'. Refute it at one input. -/
def metaTellsWrong : ChangeSpec := { name := "metaTells", fn := fun _ => fun
  | [d1, d2, d3, d4] => { results := [.lit (.bool false)], args := [d1, d2, d3, d4] }
  | _ => none }
def MetaTellsWrongFalsely : Prop := metaTellsRow.holds Try.pinned (OpenSpec.ofChange metaTellsWrong)

/-- 'copyholdlaw3.MetaLater': WHATEVER THE INPUT: true; the input reads as it did. -/
def metaLaterSpec : ChangeSpec := { name := "metaLater", fn := fun _ => fun
  | [d1, d2, d3] => { results := [.lit (.bool true)], args := [d1, d2, d3] }
  | _ => none }
def metaLaterRow : OpenClaim := { program := "ytienlhckcpfknaa", sum := "e0044243458e29964bb4cff80b870611bd1e98c3a0d88f738f9c36fafc6f6d91", func := "copyhold/copyholdlaw3.MetaLater", spec := "metaLater", inPlace := ["internal/reflectlite.TypeOf"], unfollowed := true, recurses := true, apart := false }
def MetaLaterSaid : Prop := metaLaterRow.holds Try.pinned (OpenSpec.ofChange metaLaterSpec)

/-- ITS FALSE NEIGHBOUR: 'it returns false'. Refute it at one input. -/
def metaLaterWrong : ChangeSpec := { name := "metaLater", fn := fun _ => fun
  | [d1, d2, d3] => { results := [.lit (.bool false)], args := [d1, d2, d3] }
  | _ => none }
def MetaLaterWrongFalsely : Prop := metaLaterRow.holds Try.pinned (OpenSpec.ofChange metaLaterWrong)

/-- 'copyholdlaw3.MetaTurns': WHATEVER THE INPUT: true; the input reads as it did. -/
def metaTurnsSpec : ChangeSpec := { name := "metaTurns", fn := fun _ => fun
  | [d] => { results := [.lit (.bool true)], args := [d] }
  | _ => none }
def metaTurnsRow : OpenClaim := { program := "ytienlhckcpfknaa", sum := "e0044243458e29964bb4cff80b870611bd1e98c3a0d88f738f9c36fafc6f6d91", func := "copyhold/copyholdlaw3.MetaTurns", spec := "metaTurns", inPlace := ["internal/reflectlite.TypeOf"], unfollowed := true, recurses := true, apart := false }
def MetaTurnsSaid : Prop := metaTurnsRow.holds Try.pinned (OpenSpec.ofChange metaTurnsSpec)

/-- ITS FALSE NEIGHBOUR: 'it returns false'. Refute it at one input. -/
def metaTurnsWrong : ChangeSpec := { name := "metaTurns", fn := fun _ => fun
  | [d] => { results := [.lit (.bool false)], args := [d] }
  | _ => none }
def MetaTurnsWrongFalsely : Prop := metaTurnsRow.holds Try.pinned (OpenSpec.ofChange metaTurnsWrong)

/-- 'copyholdlaw3.MetaNeither': WHATEVER THE INPUT: true; the input reads as it did. -/
def metaNeitherSpec : ChangeSpec := { name := "metaNeither", fn := fun _ => fun
  | [d1, d2, d3] => { results := [.lit (.bool true)], args := [d1, d2, d3] }
  | _ => none }
def metaNeitherRow : OpenClaim := { program := "ytienlhckcpfknaa", sum := "e0044243458e29964bb4cff80b870611bd1e98c3a0d88f738f9c36fafc6f6d91", func := "copyhold/copyholdlaw3.MetaNeither", spec := "metaNeither", inPlace := ["internal/reflectlite.TypeOf"], unfollowed := true, recurses := true, apart := false }
def MetaNeitherSaid : Prop := metaNeitherRow.holds Try.pinned (OpenSpec.ofChange metaNeitherSpec)

/-- ITS FALSE NEIGHBOUR: 'it returns false'. Refute it at one input. -/
def metaNeitherWrong : ChangeSpec := { name := "metaNeither", fn := fun _ => fun
  | [d1, d2, d3] => { results := [.lit (.bool false)], args := [d1, d2, d3] }
  | _ => none }
def MetaNeitherWrongFalsely : Prop := metaNeitherRow.holds Try.pinned (OpenSpec.ofChange metaNeitherWrong)

/- THE SECOND FORM. 'bulk': how many values and letters a reading holds, each counted each time it is reached (what is shared counts as often as it is met; a slice's spare places count too). A statement '..UptoSaid' is the law's where the arguments, and the package variables that the reading takes, are together of bulk at most 1048576: NARROWER than '..Said'. Prove '..Said' where nothing that the law and all that it calls make is longer than what came in: it says more and counts as full. Else prove '..UptoSaid'. A law counts once. -/
mutual
def uptoBulk {H : Type} : DataW H → Nat
  | .lit (.string bytes) => bytes.length + 1
  | .lit _ => 1
  | .nil => 1
  | .ptr d => uptoBulk d + 1
  | .slice elems spare => uptoBulkAll elems + uptoBulkAll spare + 1
  | .agg parts => uptoBulkAll parts + 1
  | .iface _ d => uptoBulk d + 1
  | .map entries => uptoBulkEntries entries + 1
  | .held _ => 1
def uptoBulkAll {H : Type} : List (DataW H) → Nat
  | [] => 0
  | d :: r => uptoBulk d + uptoBulkAll r
def uptoBulkEntries {H : Type} : List (Lit × DataW H) → Nat
  | [] => 0
  | x :: r => uptoBulkEntry x + uptoBulkEntries r
def uptoBulkEntry {H : Type} : Lit × DataW H → Nat
  | (.string bytes, d) => bytes.length + uptoBulk d + 1
  | (_, d) => uptoBulk d + 1
 end
def uptoSmall : (H : Type) → List (DataW H) → Bool := fun _ ds => decide (uptoBulkAll ds ≤ 1048576)
def OpenSpec.upto (s : _root_.Go.ChangeSpec) : _root_.Go.OpenSpec := { _root_.Go.OpenSpec.ofChange s with cond := some uptoSmall }

/-- 'copyholdlaw2.PageTells', WHERE WHAT IT READS IS OF BULK AT MOST 1048576: true; the input reads as it did. -/
def pageTellsUptoRow : OpenClaim := { program := "ytienlhckcpfknaa", sum := "e0044243458e29964bb4cff80b870611bd1e98c3a0d88f738f9c36fafc6f6d91", func := "copyhold/copyholdlaw2.PageTells", spec := "pageTells", inPlace := ["internal/reflectlite.TypeOf"], unfollowed := true, recurses := true, apart := false, narrowed := true }
def PageTellsUptoSaid : Prop := pageTellsUptoRow.holds Try.pinned (OpenSpec.upto pageTellsSpec)

/-- 'copyholdlaw2.PageBack', WHERE WHAT IT READS IS OF BULK AT MOST 1048576: true; the input reads as it did. -/
def pageBackUptoRow : OpenClaim := { program := "ytienlhckcpfknaa", sum := "e0044243458e29964bb4cff80b870611bd1e98c3a0d88f738f9c36fafc6f6d91", func := "copyhold/copyholdlaw2.PageBack", spec := "pageBack", inPlace := ["internal/reflectlite.TypeOf"], unfollowed := true, recurses := true, apart := false, narrowed := true }
def PageBackUptoSaid : Prop := pageBackUptoRow.holds Try.pinned (OpenSpec.upto pageBackSpec)

/-- 'copyholdlaw2.PageLeafs', WHERE WHAT IT READS IS OF BULK AT MOST 1048576: true; the input reads as it did. -/
def pageLeafsUptoRow : OpenClaim := { program := "ytienlhckcpfknaa", sum := "e0044243458e29964bb4cff80b870611bd1e98c3a0d88f738f9c36fafc6f6d91", func := "copyhold/copyholdlaw2.PageLeafs", spec := "pageLeafs", inPlace := ["internal/reflectlite.TypeOf"], unfollowed := true, recurses := true, apart := false, narrowed := true }
def PageLeafsUptoSaid : Prop := pageLeafsUptoRow.holds Try.pinned (OpenSpec.upto pageLeafsSpec)

/-- 'copyholdlaw2.PageItems', WHERE WHAT IT READS IS OF BULK AT MOST 1048576: true; the input reads as it did. -/
def pageItemsUptoRow : OpenClaim := { program := "ytienlhckcpfknaa", sum := "e0044243458e29964bb4cff80b870611bd1e98c3a0d88f738f9c36fafc6f6d91", func := "copyhold/copyholdlaw2.PageItems", spec := "pageItems", inPlace := ["internal/reflectlite.TypeOf"], unfollowed := true, recurses := true, apart := false, narrowed := true }
def PageItemsUptoSaid : Prop := pageItemsUptoRow.holds Try.pinned (OpenSpec.upto pageItemsSpec)

/-- 'copyholdlaw2.PageBranches', WHERE WHAT IT READS IS OF BULK AT MOST 1048576: true; the input reads as it did. -/
def pageBranchesUptoRow : OpenClaim := { program := "ytienlhckcpfknaa", sum := "e0044243458e29964bb4cff80b870611bd1e98c3a0d88f738f9c36fafc6f6d91", func := "copyhold/copyholdlaw2.PageBranches", spec := "pageBranches", inPlace := ["internal/reflectlite.TypeOf"], unfollowed := true, recurses := true, apart := false, narrowed := true }
def PageBranchesUptoSaid : Prop := pageBranchesUptoRow.holds Try.pinned (OpenSpec.upto pageBranchesSpec)

/-- 'copyholdlaw2.PageFrees', WHERE WHAT IT READS IS OF BULK AT MOST 1048576: true; the input reads as it did. -/
def pageFreesUptoRow : OpenClaim := { program := "ytienlhckcpfknaa", sum := "e0044243458e29964bb4cff80b870611bd1e98c3a0d88f738f9c36fafc6f6d91", func := "copyhold/copyholdlaw2.PageFrees", spec := "pageFrees", inPlace := ["internal/reflectlite.TypeOf"], unfollowed := true, recurses := true, apart := false, narrowed := true }
def PageFreesUptoSaid : Prop := pageFreesUptoRow.holds Try.pinned (OpenSpec.upto pageFreesSpec)

/-- 'copyholdlaw3.MetaTells', WHERE WHAT IT READS IS OF BULK AT MOST 1048576: true; the input reads as it did. -/
def metaTellsUptoRow : OpenClaim := { program := "ytienlhckcpfknaa", sum := "e0044243458e29964bb4cff80b870611bd1e98c3a0d88f738f9c36fafc6f6d91", func := "copyhold/copyholdlaw3.MetaTells", spec := "metaTells", inPlace := ["internal/reflectlite.TypeOf"], unfollowed := true, recurses := true, apart := false, narrowed := true }
def MetaTellsUptoSaid : Prop := metaTellsUptoRow.holds Try.pinned (OpenSpec.upto metaTellsSpec)

/-- 'copyholdlaw3.MetaLater', WHERE WHAT IT READS IS OF BULK AT MOST 1048576: true; the input reads as it did. -/
def metaLaterUptoRow : OpenClaim := { program := "ytienlhckcpfknaa", sum := "e0044243458e29964bb4cff80b870611bd1e98c3a0d88f738f9c36fafc6f6d91", func := "copyhold/copyholdlaw3.MetaLater", spec := "metaLater", inPlace := ["internal/reflectlite.TypeOf"], unfollowed := true, recurses := true, apart := false, narrowed := true }
def MetaLaterUptoSaid : Prop := metaLaterUptoRow.holds Try.pinned (OpenSpec.upto metaLaterSpec)

/-- 'copyholdlaw3.MetaTurns', WHERE WHAT IT READS IS OF BULK AT MOST 1048576: true; the input reads as it did. -/
def metaTurnsUptoRow : OpenClaim := { program := "ytienlhckcpfknaa", sum := "e0044243458e29964bb4cff80b870611bd1e98c3a0d88f738f9c36fafc6f6d91", func := "copyhold/copyholdlaw3.MetaTurns", spec := "metaTurns", inPlace := ["internal/reflectlite.TypeOf"], unfollowed := true, recurses := true, apart := false, narrowed := true }
def MetaTurnsUptoSaid : Prop := metaTurnsUptoRow.holds Try.pinned (OpenSpec.upto metaTurnsSpec)

/-- 'copyholdlaw3.MetaNeither', WHERE WHAT IT READS IS OF BULK AT MOST 1048576: true; the input reads as it did. -/
def metaNeitherUptoRow : OpenClaim := { program := "ytienlhckcpfknaa", sum := "e0044243458e29964bb4cff80b870611bd1e98c3a0d88f738f9c36fafc6f6d91", func := "copyhold/copyholdlaw3.MetaNeither", spec := "metaNeither", inPlace := ["internal/reflectlite.TypeOf"], unfollowed := true, recurses := true, apart := false, narrowed := true }
def MetaNeitherUptoSaid : Prop := metaNeitherUptoRow.holds Try.pinned (OpenSpec.upto metaNeitherSpec)

end Rows
end Go.Proofs.Ytienlhckcpfknaa
