/-
  DERIVED. GIVEN WITH THE SEED: THE CARDS: each row of YtpkngagppfoccaaGreatDoorRows.lean that lists a variable, with what it lists TIED to the program's text (the seventh form; the later family's looks); each row that meets fmt, with fmt's text TOLD by the authors' own Lean function (tested against real Go, not proved from fmt's source: count such statements apart). THE CARD IS WHAT COUNTS. Prove the row's statement (the work); the ties are given (YtpkngagppfoccaaGreatDoorTie.lean); close each card by the builder's one call (the guide's Derived/Test/ToyasCard.lean, 'card_holds'). Laid BY PROGRAM, IN A SANDBOX (cutbox-door.mjs). By AI agents, Wed Nov 11 2026. No macro, syntax, notation, axiom, sorry.
-/
import Derived.Test.YtpkngagppfoccaaGreatDoorRows
import GoSem.ClaimSeven
namespace Go.Proofs.YtpkngagppfoccaaGreatDoor
namespace Rows

/-- THE TIED CARD OF 'ragpickerlaw18.SweepSteps'. -/
def sweepStepsCard : Claim7 := { stood := { row := sweepStepsRow, standIns := [], harness := (true, "a195edcdba80d1dfb1ba6a121e950a8c32c7d6bf0ac7a84d33dc2ee33375e754"), looks := false }, kinds := [], alts := [], laidByText := true, laidKinds := [.widerDeep], laidTests := true, laidLooks := .later }
def SweepStepsCardSaid : Prop := Claim7.holds Tryz.pinned (.plain (OpenSpec.ofChange sweepStepsSpec)) sweepStepsCard

/-- THE TIED CARD OF 'ragpickerlaw18.SweepFates'. -/
def sweepFatesCard : Claim7 := { stood := { row := sweepFatesRow, standIns := [], harness := (true, "a195edcdba80d1dfb1ba6a121e950a8c32c7d6bf0ac7a84d33dc2ee33375e754"), looks := false }, kinds := [], alts := [], laidByText := true, laidKinds := [.widerDeep], laidTests := true, laidLooks := .later }
def SweepFatesCardSaid : Prop := Claim7.holds Tryz.pinned (.plain (OpenSpec.ofChange sweepFatesSpec)) sweepFatesCard

/-- THE TIED CARD OF 'ragpickerlaw18.SweepIdle'. -/
def sweepIdleCard : Claim7 := { stood := { row := sweepIdleRow, standIns := [], harness := (true, "a195edcdba80d1dfb1ba6a121e950a8c32c7d6bf0ac7a84d33dc2ee33375e754"), looks := false }, kinds := [], alts := [], laidByText := true, laidKinds := [.widerDeep], laidTests := true, laidLooks := .later }
def SweepIdleCardSaid : Prop := Claim7.holds Tryz.pinned (.plain (OpenSpec.ofChange sweepIdleSpec)) sweepIdleCard

/-- THE TIED CARD OF 'ragpickerlaw18.SweepCards'. -/
def sweepCardsCard : Claim7 := { stood := { row := sweepCardsRow, standIns := [], harness := (true, "a195edcdba80d1dfb1ba6a121e950a8c32c7d6bf0ac7a84d33dc2ee33375e754"), looks := false }, kinds := [], alts := [], laidByText := true, laidKinds := [.widerDeep], laidTests := true, laidLooks := .later }
def SweepCardsCardSaid : Prop := Claim7.holds Tryz.pinned (.plain (OpenSpec.ofChange sweepCardsSpec)) sweepCardsCard

/-- THE TIED CARD OF 'ragpickerlaw18.SweepEnds'. -/
def sweepEndsCard : Claim7 := { stood := { row := sweepEndsRow, standIns := [], harness := (true, "a195edcdba80d1dfb1ba6a121e950a8c32c7d6bf0ac7a84d33dc2ee33375e754"), looks := false }, kinds := [], alts := [], laidByText := true, laidKinds := [.widerDeep], laidTests := true, laidLooks := .later }
def SweepEndsCardSaid : Prop := Claim7.holds Tryz.pinned (.plain (OpenSpec.ofChange sweepEndsSpec)) sweepEndsCard

/-- THE TIED CARD OF 'ragpickerlaw18.SweepOne'. -/
def sweepOneCard : Claim7 := { stood := { row := sweepOneRow, standIns := [], harness := (true, "a195edcdba80d1dfb1ba6a121e950a8c32c7d6bf0ac7a84d33dc2ee33375e754"), looks := false }, kinds := [], alts := [], laidByText := true, laidKinds := [.widerDeep], laidTests := true, laidLooks := .later }
def SweepOneCardSaid : Prop := Claim7.holds Tryz.pinned (.plain (OpenSpec.ofChange sweepOneSpec)) sweepOneCard

/-- THE SECOND FORM's CARD OF 'ragpickerlaw18.SweepSteps'. -/
def sweepStepsUptoCard : Claim7 := { stood := { row := sweepStepsUptoRow, standIns := [], harness := (true, "a195edcdba80d1dfb1ba6a121e950a8c32c7d6bf0ac7a84d33dc2ee33375e754"), looks := false }, kinds := [], alts := [], laidByText := true, laidKinds := [.widerDeep], laidTests := true, laidLooks := .later }
def SweepStepsUptoCardSaid : Prop := Claim7.holds Tryz.pinned (.plain (OpenSpec.upto sweepStepsSpec)) sweepStepsUptoCard

/-- THE SECOND FORM's CARD OF 'ragpickerlaw18.SweepFates'. -/
def sweepFatesUptoCard : Claim7 := { stood := { row := sweepFatesUptoRow, standIns := [], harness := (true, "a195edcdba80d1dfb1ba6a121e950a8c32c7d6bf0ac7a84d33dc2ee33375e754"), looks := false }, kinds := [], alts := [], laidByText := true, laidKinds := [.widerDeep], laidTests := true, laidLooks := .later }
def SweepFatesUptoCardSaid : Prop := Claim7.holds Tryz.pinned (.plain (OpenSpec.upto sweepFatesSpec)) sweepFatesUptoCard

/-- THE SECOND FORM's CARD OF 'ragpickerlaw18.SweepIdle'. -/
def sweepIdleUptoCard : Claim7 := { stood := { row := sweepIdleUptoRow, standIns := [], harness := (true, "a195edcdba80d1dfb1ba6a121e950a8c32c7d6bf0ac7a84d33dc2ee33375e754"), looks := false }, kinds := [], alts := [], laidByText := true, laidKinds := [.widerDeep], laidTests := true, laidLooks := .later }
def SweepIdleUptoCardSaid : Prop := Claim7.holds Tryz.pinned (.plain (OpenSpec.upto sweepIdleSpec)) sweepIdleUptoCard

/-- THE SECOND FORM's CARD OF 'ragpickerlaw18.SweepCards'. -/
def sweepCardsUptoCard : Claim7 := { stood := { row := sweepCardsUptoRow, standIns := [], harness := (true, "a195edcdba80d1dfb1ba6a121e950a8c32c7d6bf0ac7a84d33dc2ee33375e754"), looks := false }, kinds := [], alts := [], laidByText := true, laidKinds := [.widerDeep], laidTests := true, laidLooks := .later }
def SweepCardsUptoCardSaid : Prop := Claim7.holds Tryz.pinned (.plain (OpenSpec.upto sweepCardsSpec)) sweepCardsUptoCard

/-- THE SECOND FORM's CARD OF 'ragpickerlaw18.SweepEnds'. -/
def sweepEndsUptoCard : Claim7 := { stood := { row := sweepEndsUptoRow, standIns := [], harness := (true, "a195edcdba80d1dfb1ba6a121e950a8c32c7d6bf0ac7a84d33dc2ee33375e754"), looks := false }, kinds := [], alts := [], laidByText := true, laidKinds := [.widerDeep], laidTests := true, laidLooks := .later }
def SweepEndsUptoCardSaid : Prop := Claim7.holds Tryz.pinned (.plain (OpenSpec.upto sweepEndsSpec)) sweepEndsUptoCard

/-- THE SECOND FORM's CARD OF 'ragpickerlaw18.SweepOne'. -/
def sweepOneUptoCard : Claim7 := { stood := { row := sweepOneUptoRow, standIns := [], harness := (true, "a195edcdba80d1dfb1ba6a121e950a8c32c7d6bf0ac7a84d33dc2ee33375e754"), looks := false }, kinds := [], alts := [], laidByText := true, laidKinds := [.widerDeep], laidTests := true, laidLooks := .later }
def SweepOneUptoCardSaid : Prop := Claim7.holds Tryz.pinned (.plain (OpenSpec.upto sweepOneSpec)) sweepOneUptoCard
end Rows
end Go.Proofs.YtpkngagppfoccaaGreatDoor
