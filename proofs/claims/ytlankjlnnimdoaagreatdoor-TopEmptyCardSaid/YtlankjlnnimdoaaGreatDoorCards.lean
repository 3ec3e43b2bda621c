/-
  DERIVED. GIVEN WITH THE SEED: THE CARDS: each row of YtlankjlnnimdoaaGreatDoorRows.lean that lists a variable, with what it lists TIED to the program's text (the seventh form; the later family's looks); each row that meets fmt, with fmt's text TOLD by the authors' own Lean function (tested against real Go, not proved from fmt's source: count such statements apart). THE CARD IS WHAT COUNTS. Prove the row's statement (the work); the ties are given (YtlankjlnnimdoaaGreatDoorTie.lean); close each card by the builder's one call (the guide's Derived/Test/ToyasCard.lean, 'card_holds'). Laid BY PROGRAM, IN A SANDBOX (cutbox-door.mjs). By AI agents, Wed Nov 11 2026. No macro, syntax, notation, axiom, sorry.
-/
import Derived.Test.YtlankjlnnimdoaaGreatDoorRows
import GoSem.ClaimSeven
namespace Go.Proofs.YtlankjlnnimdoaaGreatDoor
namespace Rows

/-- THE TIED CARD OF 'ragpickertop.TopEmpty'. -/
def topEmptyCard : Claim7 := { stood := { row := topEmptyRow, standIns := [], harness := (true, "ae9ca4c3943a1593d88c71a03acb0a6ab574f3786b88618b7295976d020b2e7a"), looks := false }, kinds := [], alts := [], laidByText := true, laidKinds := [.widerDeep], laidTests := true, laidLooks := .later }
def TopEmptyCardSaid : Prop := Claim7.holds Tryz.pinned (.plain (OpenSpec.ofChange topEmptySpec)) topEmptyCard

/-- THE TIED CARD OF 'ragpickertop.TopEpoch'. -/
def topEpochCard : Claim7 := { stood := { row := topEpochRow, standIns := [], harness := (true, "ae9ca4c3943a1593d88c71a03acb0a6ab574f3786b88618b7295976d020b2e7a"), looks := false }, kinds := [], alts := [], laidByText := true, laidKinds := [.widerDeep], laidTests := true, laidLooks := .later }
def TopEpochCardSaid : Prop := Claim7.holds Tryz.pinned (.plain (OpenSpec.ofChange topEpochSpec)) topEpochCard

/-- THE TIED CARD OF 'ragpickertop.TopAnswers'. -/
def topAnswersCard : Claim7 := { stood := { row := topAnswersRow, standIns := [], harness := (true, "ae9ca4c3943a1593d88c71a03acb0a6ab574f3786b88618b7295976d020b2e7a"), looks := false }, kinds := [], alts := [], laidByText := true, laidKinds := [.widerDeep], laidTests := true, laidLooks := .later }
def TopAnswersCardSaid : Prop := Claim7.holds Tryz.pinned (.plain (OpenSpec.ofChange topAnswersSpec)) topAnswersCard

/-- THE TIED CARD OF 'ragpickertop.TopWhite'. -/
def topWhiteCard : Claim7 := { stood := { row := topWhiteRow, standIns := [], harness := (true, "ae9ca4c3943a1593d88c71a03acb0a6ab574f3786b88618b7295976d020b2e7a"), looks := false }, kinds := [], alts := [], laidByText := true, laidKinds := [.widerDeep], laidTests := true, laidLooks := .later }
def TopWhiteCardSaid : Prop := Claim7.holds Tryz.pinned (.plain (OpenSpec.ofChange topWhiteSpec)) topWhiteCard

/-- THE SECOND FORM's CARD OF 'ragpickertop.TopEmpty'. -/
def topEmptyUptoCard : Claim7 := { stood := { row := topEmptyUptoRow, standIns := [], harness := (true, "ae9ca4c3943a1593d88c71a03acb0a6ab574f3786b88618b7295976d020b2e7a"), looks := false }, kinds := [], alts := [], laidByText := true, laidKinds := [.widerDeep], laidTests := true, laidLooks := .later }
def TopEmptyUptoCardSaid : Prop := Claim7.holds Tryz.pinned (.plain (OpenSpec.upto topEmptySpec)) topEmptyUptoCard

/-- THE SECOND FORM's CARD OF 'ragpickertop.TopEpoch'. -/
def topEpochUptoCard : Claim7 := { stood := { row := topEpochUptoRow, standIns := [], harness := (true, "ae9ca4c3943a1593d88c71a03acb0a6ab574f3786b88618b7295976d020b2e7a"), looks := false }, kinds := [], alts := [], laidByText := true, laidKinds := [.widerDeep], laidTests := true, laidLooks := .later }
def TopEpochUptoCardSaid : Prop := Claim7.holds Tryz.pinned (.plain (OpenSpec.upto topEpochSpec)) topEpochUptoCard

/-- THE SECOND FORM's CARD OF 'ragpickertop.TopAnswers'. -/
def topAnswersUptoCard : Claim7 := { stood := { row := topAnswersUptoRow, standIns := [], harness := (true, "ae9ca4c3943a1593d88c71a03acb0a6ab574f3786b88618b7295976d020b2e7a"), looks := false }, kinds := [], alts := [], laidByText := true, laidKinds := [.widerDeep], laidTests := true, laidLooks := .later }
def TopAnswersUptoCardSaid : Prop := Claim7.holds Tryz.pinned (.plain (OpenSpec.upto topAnswersSpec)) topAnswersUptoCard

/-- THE SECOND FORM's CARD OF 'ragpickertop.TopWhite'. -/
def topWhiteUptoCard : Claim7 := { stood := { row := topWhiteUptoRow, standIns := [], harness := (true, "ae9ca4c3943a1593d88c71a03acb0a6ab574f3786b88618b7295976d020b2e7a"), looks := false }, kinds := [], alts := [], laidByText := true, laidKinds := [.widerDeep], laidTests := true, laidLooks := .later }
def TopWhiteUptoCardSaid : Prop := Claim7.holds Tryz.pinned (.plain (OpenSpec.upto topWhiteSpec)) topWhiteUptoCard
end Rows
end Go.Proofs.YtlankjlnnimdoaaGreatDoor
