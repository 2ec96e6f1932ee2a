/-
  DERIVED. GIVEN WITH THE SEED: THE CARDS: each row of YtmcpkhknjdiocaaGreatDoorRows.lean that lists a variable, with what it lists TIED to the program's text (the seventh form; the later family's looks); each row that meets fmt, with fmt's text TOLD by the authors' own Lean function (tested against real Go, not proved from fmt's source: count such statements apart). THE CARD IS WHAT COUNTS. Prove the row's statement (the work); the ties are given (YtmcpkhknjdiocaaGreatDoorTie.lean); close each card by the builder's one call (the guide's Derived/Test/ToyasCard.lean, 'card_holds'). Laid BY PROGRAM, IN A SANDBOX (cutbox-door.mjs). By AI agents, Wed Nov 11 2026. No macro, syntax, notation, axiom, sorry.
-/
import Derived.Test.YtmcpkhknjdiocaaGreatDoorRows
import GoSem.ClaimSeven
namespace Go.Proofs.YtmcpkhknjdiocaaGreatDoor
namespace Rows

/-- THE TIED CARD OF 'copyholdlaw22.ReaderTells'. -/
def readerTellsCard : Claim7 := { stood := { row := readerTellsRow, standIns := [], harness := (true, "ab05e85b04c6ec91a9570d8783313d271286bf009ac6c8d2f2f4bd7982a5b0d3"), looks := true }, kinds := [], alts := [], laidByText := true, laidKinds := [.handle], laidTests := true, laidLooks := .later }
def ReaderTellsCardSaid : Prop := Claim7.holds Tryz.pinned (.plain (OpenSpec.ofChange readerTellsSpec)) readerTellsCard

/-- THE TIED CARD OF 'copyholdlaw10.FindTells'. -/
def findTellsCard : Claim7 := { stood := { row := findTellsRow, standIns := [], harness := (true, "ab05e85b04c6ec91a9570d8783313d271286bf009ac6c8d2f2f4bd7982a5b0d3"), looks := true }, kinds := [], alts := [], laidByText := true, laidKinds := [.handle], laidTests := true, laidLooks := .later }
def FindTellsCardSaid : Prop := Claim7.holds Tryz.pinned (.plain (OpenSpec.ofChange findTellsSpec)) findTellsCard

/-- THE TIED CARD OF 'copyholdlaw17.WalkTells'. -/
def walkTellsCard : Claim7 := { stood := { row := walkTellsRow, standIns := [], harness := (true, "ab05e85b04c6ec91a9570d8783313d271286bf009ac6c8d2f2f4bd7982a5b0d3"), looks := true }, kinds := [], alts := [], laidByText := true, laidKinds := [.handle], laidTests := true, laidLooks := .later }
def WalkTellsCardSaid : Prop := Claim7.holds Tryz.pinned (.plain (OpenSpec.ofChange walkTellsSpec)) walkTellsCard

/-- THE SECOND FORM's CARD OF 'copyholdlaw22.ReaderTells'. -/
def readerTellsUptoCard : Claim7 := { stood := { row := readerTellsUptoRow, standIns := [], harness := (true, "ab05e85b04c6ec91a9570d8783313d271286bf009ac6c8d2f2f4bd7982a5b0d3"), looks := true }, kinds := [], alts := [], laidByText := true, laidKinds := [.handle], laidTests := true, laidLooks := .later }
def ReaderTellsUptoCardSaid : Prop := Claim7.holds Tryz.pinned (.plain (OpenSpec.upto readerTellsSpec)) readerTellsUptoCard

/-- THE SECOND FORM's CARD OF 'copyholdlaw10.FindTells'. -/
def findTellsUptoCard : Claim7 := { stood := { row := findTellsUptoRow, standIns := [], harness := (true, "ab05e85b04c6ec91a9570d8783313d271286bf009ac6c8d2f2f4bd7982a5b0d3"), looks := true }, kinds := [], alts := [], laidByText := true, laidKinds := [.handle], laidTests := true, laidLooks := .later }
def FindTellsUptoCardSaid : Prop := Claim7.holds Tryz.pinned (.plain (OpenSpec.upto findTellsSpec)) findTellsUptoCard

/-- THE SECOND FORM's CARD OF 'copyholdlaw17.WalkTells'. -/
def walkTellsUptoCard : Claim7 := { stood := { row := walkTellsUptoRow, standIns := [], harness := (true, "ab05e85b04c6ec91a9570d8783313d271286bf009ac6c8d2f2f4bd7982a5b0d3"), looks := true }, kinds := [], alts := [], laidByText := true, laidKinds := [.handle], laidTests := true, laidLooks := .later }
def WalkTellsUptoCardSaid : Prop := Claim7.holds Tryz.pinned (.plain (OpenSpec.upto walkTellsSpec)) walkTellsUptoCard
end Rows
end Go.Proofs.YtmcpkhknjdiocaaGreatDoor
