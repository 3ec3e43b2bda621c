/-
  DERIVED. GIVEN WITH THE SEED: THE CARDS: each row of YtkalcaokmadpjaaGreatDoorRows.lean that lists a variable, with what it lists TIED to the program's text (the seventh form; the later family's looks); each row that meets fmt, with fmt's text TOLD by the authors' own Lean function (tested against real Go, not proved from fmt's source: count such statements apart). THE CARD IS WHAT COUNTS. Prove the row's statement (the work); the ties are given (YtkalcaokmadpjaaGreatDoorTie.lean); close each card by the builder's one call (the guide's Derived/Test/ToyasCard.lean, 'card_holds'). Laid BY PROGRAM, IN A SANDBOX (cutbox-door.mjs). By AI agents, Wed Nov 11 2026. No macro, syntax, notation, axiom, sorry.
-/
import Derived.Test.YtkalcaokmadpjaaGreatDoorRows
import GoSem.ClaimSeven
namespace Go.Proofs.YtkalcaokmadpjaaGreatDoor
namespace Rows

/-- THE TIED CARD OF 'ragpickerlaw12.RegsTells'. -/
def regsTellsCard : Claim7 := { stood := { row := regsTellsRow, standIns := [], harness := (true, "1b2d3632b984f74940d29db4426c8887c2b3b3b3ad6c2bbe61725c57868e68cf"), looks := false }, kinds := [], alts := [], laidByText := true, laidKinds := [.widerDeep], laidTests := true, laidLooks := .later }
def RegsTellsCardSaid : Prop := Claim7.holds Tryz.pinned (.plain (OpenSpec.ofChange regsTellsSpec)) regsTellsCard

/-- THE TIED CARD OF 'ragpickerlaw07.HeapSets'. -/
def heapSetsCard : Claim7 := { stood := { row := heapSetsRow, standIns := [], harness := (true, "1b2d3632b984f74940d29db4426c8887c2b3b3b3ad6c2bbe61725c57868e68cf"), looks := false }, kinds := [], alts := [], laidByText := true, laidKinds := [.widerDeep], laidTests := true, laidLooks := .later }
def HeapSetsCardSaid : Prop := Claim7.holds Tryz.pinned (.plain (OpenSpec.ofChange heapSetsSpec)) heapSetsCard

/-- THE TIED CARD OF 'ragpickerlaw10.CardsTells'. -/
def cardsTellsCard : Claim7 := { stood := { row := cardsTellsRow, standIns := [], harness := (true, "1b2d3632b984f74940d29db4426c8887c2b3b3b3ad6c2bbe61725c57868e68cf"), looks := false }, kinds := [], alts := [], laidByText := true, laidKinds := [.widerDeep], laidTests := true, laidLooks := .later }
def CardsTellsCardSaid : Prop := Claim7.holds Tryz.pinned (.plain (OpenSpec.ofChange cardsTellsSpec)) cardsTellsCard

/-- THE SECOND FORM's CARD OF 'ragpickerlaw12.RegsTells'. -/
def regsTellsUptoCard : Claim7 := { stood := { row := regsTellsUptoRow, standIns := [], harness := (true, "1b2d3632b984f74940d29db4426c8887c2b3b3b3ad6c2bbe61725c57868e68cf"), looks := false }, kinds := [], alts := [], laidByText := true, laidKinds := [.widerDeep], laidTests := true, laidLooks := .later }
def RegsTellsUptoCardSaid : Prop := Claim7.holds Tryz.pinned (.plain (OpenSpec.upto regsTellsSpec)) regsTellsUptoCard

/-- THE SECOND FORM's CARD OF 'ragpickerlaw07.HeapSets'. -/
def heapSetsUptoCard : Claim7 := { stood := { row := heapSetsUptoRow, standIns := [], harness := (true, "1b2d3632b984f74940d29db4426c8887c2b3b3b3ad6c2bbe61725c57868e68cf"), looks := false }, kinds := [], alts := [], laidByText := true, laidKinds := [.widerDeep], laidTests := true, laidLooks := .later }
def HeapSetsUptoCardSaid : Prop := Claim7.holds Tryz.pinned (.plain (OpenSpec.upto heapSetsSpec)) heapSetsUptoCard

/-- THE SECOND FORM's CARD OF 'ragpickerlaw10.CardsTells'. -/
def cardsTellsUptoCard : Claim7 := { stood := { row := cardsTellsUptoRow, standIns := [], harness := (true, "1b2d3632b984f74940d29db4426c8887c2b3b3b3ad6c2bbe61725c57868e68cf"), looks := false }, kinds := [], alts := [], laidByText := true, laidKinds := [.widerDeep], laidTests := true, laidLooks := .later }
def CardsTellsUptoCardSaid : Prop := Claim7.holds Tryz.pinned (.plain (OpenSpec.upto cardsTellsSpec)) cardsTellsUptoCard
end Rows
end Go.Proofs.YtkalcaokmadpjaaGreatDoor
