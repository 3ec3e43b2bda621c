/-
  DERIVED. GIVEN WITH THE SEED: THE CARDS: each row of YtejnngjfjaeiiaaGreatDoorRows.lean that lists a variable, with what it lists TIED to the program's text (the seventh form; the later family's looks); each row that meets fmt, with fmt's text TOLD by the authors' own Lean function (tested against real Go, not proved from fmt's source: count such statements apart). THE CARD IS WHAT COUNTS. Prove the row's statement (the work); the ties are given (YtejnngjfjaeiiaaGreatDoorTie.lean); close each card by the builder's one call (the guide's Derived/Test/ToyasCard.lean, 'card_holds'). Laid BY PROGRAM, IN A SANDBOX (cutbox-door.mjs). By AI agents, Wed Nov 11 2026. No macro, syntax, notation, axiom, sorry.
-/
import Derived.Test.YtejnngjfjaeiiaaGreatDoorRows
import GoSem.ClaimSeven
namespace Go.Proofs.YtejnngjfjaeiiaaGreatDoor
namespace Rows

/-- THE TIED CARD OF 'ragpickerlaw19.CycleOrder'. -/
def cycleOrderCard : Claim7 := { stood := { row := cycleOrderRow, standIns := [], harness := (true, "21a1687f6329b83df97cdc6e4a26df0a4d043e2e53569286c7eb42a56371a5ee"), looks := false }, kinds := [], alts := [], laidByText := true, laidKinds := [.widerDeep], laidTests := true, laidLooks := .later }
def CycleOrderCardSaid : Prop := Claim7.holds Tryz.pinned (.plain (OpenSpec.ofChange cycleOrderSpec)) cycleOrderCard

/-- THE TIED CARD OF 'ragpickerlaw19.CycleEnds'. -/
def cycleEndsCard : Claim7 := { stood := { row := cycleEndsRow, standIns := [], harness := (true, "21a1687f6329b83df97cdc6e4a26df0a4d043e2e53569286c7eb42a56371a5ee"), looks := false }, kinds := [], alts := [], laidByText := true, laidKinds := [.widerDeep], laidTests := true, laidLooks := .later }
def CycleEndsCardSaid : Prop := Claim7.holds Tryz.pinned (.plain (OpenSpec.ofChange cycleEndsSpec)) cycleEndsCard

/-- THE TIED CARD OF 'ragpickerlaw19.CycleIdle'. -/
def cycleIdleCard : Claim7 := { stood := { row := cycleIdleRow, standIns := [], harness := (true, "21a1687f6329b83df97cdc6e4a26df0a4d043e2e53569286c7eb42a56371a5ee"), looks := false }, kinds := [], alts := [], laidByText := true, laidKinds := [.widerDeep], laidTests := true, laidLooks := .later }
def CycleIdleCardSaid : Prop := Claim7.holds Tryz.pinned (.plain (OpenSpec.ofChange cycleIdleSpec)) cycleIdleCard

/-- THE TIED CARD OF 'ragpickerlaw19.CycleWhole'. -/
def cycleWholeCard : Claim7 := { stood := { row := cycleWholeRow, standIns := [], harness := (true, "21a1687f6329b83df97cdc6e4a26df0a4d043e2e53569286c7eb42a56371a5ee"), looks := false }, kinds := [], alts := [], laidByText := true, laidKinds := [.widerDeep], laidTests := true, laidLooks := .later }
def CycleWholeCardSaid : Prop := Claim7.holds Tryz.pinned (.plain (OpenSpec.ofChange cycleWholeSpec)) cycleWholeCard

/-- THE TIED CARD OF 'ragpickertop.TopEmpty'. -/
def topEmptyCard : Claim7 := { stood := { row := topEmptyRow, standIns := [], harness := (true, "21a1687f6329b83df97cdc6e4a26df0a4d043e2e53569286c7eb42a56371a5ee"), looks := false }, kinds := [], alts := [], laidByText := true, laidKinds := [.widerDeep], laidTests := true, laidLooks := .later }
def TopEmptyCardSaid : Prop := Claim7.holds Tryz.pinned (.plain (OpenSpec.ofChange topEmptySpec)) topEmptyCard

/-- THE TIED CARD OF 'ragpickertop.TopEpoch'. -/
def topEpochCard : Claim7 := { stood := { row := topEpochRow, standIns := [], harness := (true, "21a1687f6329b83df97cdc6e4a26df0a4d043e2e53569286c7eb42a56371a5ee"), looks := false }, kinds := [], alts := [], laidByText := true, laidKinds := [.widerDeep], laidTests := true, laidLooks := .later }
def TopEpochCardSaid : Prop := Claim7.holds Tryz.pinned (.plain (OpenSpec.ofChange topEpochSpec)) topEpochCard

/-- THE TIED CARD OF 'ragpickertop.TopAnswers'. -/
def topAnswersCard : Claim7 := { stood := { row := topAnswersRow, standIns := [], harness := (true, "21a1687f6329b83df97cdc6e4a26df0a4d043e2e53569286c7eb42a56371a5ee"), looks := false }, kinds := [], alts := [], laidByText := true, laidKinds := [.widerDeep], laidTests := true, laidLooks := .later }
def TopAnswersCardSaid : Prop := Claim7.holds Tryz.pinned (.plain (OpenSpec.ofChange topAnswersSpec)) topAnswersCard

/-- THE TIED CARD OF 'ragpickertop.TopWhite'. -/
def topWhiteCard : Claim7 := { stood := { row := topWhiteRow, standIns := [], harness := (true, "21a1687f6329b83df97cdc6e4a26df0a4d043e2e53569286c7eb42a56371a5ee"), looks := false }, kinds := [], alts := [], laidByText := true, laidKinds := [.widerDeep], laidTests := true, laidLooks := .later }
def TopWhiteCardSaid : Prop := Claim7.holds Tryz.pinned (.plain (OpenSpec.ofChange topWhiteSpec)) topWhiteCard

/-- THE SECOND FORM's CARD OF 'ragpickerlaw19.CycleOrder'. -/
def cycleOrderUptoCard : Claim7 := { stood := { row := cycleOrderUptoRow, standIns := [], harness := (true, "21a1687f6329b83df97cdc6e4a26df0a4d043e2e53569286c7eb42a56371a5ee"), looks := false }, kinds := [], alts := [], laidByText := true, laidKinds := [.widerDeep], laidTests := true, laidLooks := .later }
def CycleOrderUptoCardSaid : Prop := Claim7.holds Tryz.pinned (.plain (OpenSpec.upto cycleOrderSpec)) cycleOrderUptoCard

/-- THE SECOND FORM's CARD OF 'ragpickerlaw19.CycleEnds'. -/
def cycleEndsUptoCard : Claim7 := { stood := { row := cycleEndsUptoRow, standIns := [], harness := (true, "21a1687f6329b83df97cdc6e4a26df0a4d043e2e53569286c7eb42a56371a5ee"), looks := false }, kinds := [], alts := [], laidByText := true, laidKinds := [.widerDeep], laidTests := true, laidLooks := .later }
def CycleEndsUptoCardSaid : Prop := Claim7.holds Tryz.pinned (.plain (OpenSpec.upto cycleEndsSpec)) cycleEndsUptoCard

/-- THE SECOND FORM's CARD OF 'ragpickerlaw19.CycleIdle'. -/
def cycleIdleUptoCard : Claim7 := { stood := { row := cycleIdleUptoRow, standIns := [], harness := (true, "21a1687f6329b83df97cdc6e4a26df0a4d043e2e53569286c7eb42a56371a5ee"), looks := false }, kinds := [], alts := [], laidByText := true, laidKinds := [.widerDeep], laidTests := true, laidLooks := .later }
def CycleIdleUptoCardSaid : Prop := Claim7.holds Tryz.pinned (.plain (OpenSpec.upto cycleIdleSpec)) cycleIdleUptoCard

/-- THE SECOND FORM's CARD OF 'ragpickerlaw19.CycleWhole'. -/
def cycleWholeUptoCard : Claim7 := { stood := { row := cycleWholeUptoRow, standIns := [], harness := (true, "21a1687f6329b83df97cdc6e4a26df0a4d043e2e53569286c7eb42a56371a5ee"), looks := false }, kinds := [], alts := [], laidByText := true, laidKinds := [.widerDeep], laidTests := true, laidLooks := .later }
def CycleWholeUptoCardSaid : Prop := Claim7.holds Tryz.pinned (.plain (OpenSpec.upto cycleWholeSpec)) cycleWholeUptoCard

/-- THE SECOND FORM's CARD OF 'ragpickertop.TopEmpty'. -/
def topEmptyUptoCard : Claim7 := { stood := { row := topEmptyUptoRow, standIns := [], harness := (true, "21a1687f6329b83df97cdc6e4a26df0a4d043e2e53569286c7eb42a56371a5ee"), looks := false }, kinds := [], alts := [], laidByText := true, laidKinds := [.widerDeep], laidTests := true, laidLooks := .later }
def TopEmptyUptoCardSaid : Prop := Claim7.holds Tryz.pinned (.plain (OpenSpec.upto topEmptySpec)) topEmptyUptoCard

/-- THE SECOND FORM's CARD OF 'ragpickertop.TopEpoch'. -/
def topEpochUptoCard : Claim7 := { stood := { row := topEpochUptoRow, standIns := [], harness := (true, "21a1687f6329b83df97cdc6e4a26df0a4d043e2e53569286c7eb42a56371a5ee"), looks := false }, kinds := [], alts := [], laidByText := true, laidKinds := [.widerDeep], laidTests := true, laidLooks := .later }
def TopEpochUptoCardSaid : Prop := Claim7.holds Tryz.pinned (.plain (OpenSpec.upto topEpochSpec)) topEpochUptoCard

/-- THE SECOND FORM's CARD OF 'ragpickertop.TopAnswers'. -/
def topAnswersUptoCard : Claim7 := { stood := { row := topAnswersUptoRow, standIns := [], harness := (true, "21a1687f6329b83df97cdc6e4a26df0a4d043e2e53569286c7eb42a56371a5ee"), looks := false }, kinds := [], alts := [], laidByText := true, laidKinds := [.widerDeep], laidTests := true, laidLooks := .later }
def TopAnswersUptoCardSaid : Prop := Claim7.holds Tryz.pinned (.plain (OpenSpec.upto topAnswersSpec)) topAnswersUptoCard

/-- THE SECOND FORM's CARD OF 'ragpickertop.TopWhite'. -/
def topWhiteUptoCard : Claim7 := { stood := { row := topWhiteUptoRow, standIns := [], harness := (true, "21a1687f6329b83df97cdc6e4a26df0a4d043e2e53569286c7eb42a56371a5ee"), looks := false }, kinds := [], alts := [], laidByText := true, laidKinds := [.widerDeep], laidTests := true, laidLooks := .later }
def TopWhiteUptoCardSaid : Prop := Claim7.holds Tryz.pinned (.plain (OpenSpec.upto topWhiteSpec)) topWhiteUptoCard
end Rows
end Go.Proofs.YtejnngjfjaeiiaaGreatDoor
