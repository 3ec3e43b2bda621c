/-
  DERIVED. GIVEN WITH THE SEED: THE CARDS: each row of YtpaidgcpjeagkaaDoorRows.lean that lists a variable, with what it lists TIED to the program's text (the seventh form; the later family's looks); each row that meets fmt, with fmt's text TOLD by the authors' own Lean function (tested against real Go, not proved from fmt's source: count such statements apart). THE CARD IS WHAT COUNTS. Prove the row's statement (the work); the ties are given (YtpaidgcpjeagkaaDoorTie.lean); close each card by the builder's one call (the guide's Derived/Test/ToyasCard.lean, 'card_holds'). Laid BY PROGRAM, IN A SANDBOX (cutbox-door.mjs). By AI agents, Wed Nov 11 2026. No macro, syntax, notation, axiom, sorry.
-/
import Derived.Test.YtpaidgcpjeagkaaDoorRows
import GoSem.ClaimSeven
namespace Go.Proofs.YtpaidgcpjeagkaaDoor
namespace Rows

/-- THE TIED CARD OF 'ragpickerlaw15.HandAll'. -/
def handAllCard : Claim7 := { stood := { row := handAllRow, standIns := [], harness := (true, "3ca39b8cb8df8b7f114e5f363a39ae430937b04439e959a0177a439921cf20cd"), looks := false }, kinds := [], alts := [], laidByText := true, laidKinds := [.widerDeep], laidTests := true, laidLooks := .later }
def HandAllCardSaid : Prop := Claim7.holds Tryd.pinned (.plain (OpenSpec.ofChange handAllSpec)) handAllCard

/-- THE TIED CARD OF 'ragpickerlaw15.HandOnce'. -/
def handOnceCard : Claim7 := { stood := { row := handOnceRow, standIns := [], harness := (true, "3ca39b8cb8df8b7f114e5f363a39ae430937b04439e959a0177a439921cf20cd"), looks := false }, kinds := [], alts := [], laidByText := true, laidKinds := [.widerDeep], laidTests := true, laidLooks := .later }
def HandOnceCardSaid : Prop := Claim7.holds Tryd.pinned (.plain (OpenSpec.ofChange handOnceSpec)) handOnceCard

/-- THE TIED CARD OF 'ragpickerlaw15.HandRoots'. -/
def handRootsCard : Claim7 := { stood := { row := handRootsRow, standIns := [], harness := (true, "3ca39b8cb8df8b7f114e5f363a39ae430937b04439e959a0177a439921cf20cd"), looks := false }, kinds := [], alts := [], laidByText := true, laidKinds := [.widerDeep], laidTests := true, laidLooks := .later }
def HandRootsCardSaid : Prop := Claim7.holds Tryd.pinned (.plain (OpenSpec.ofChange handRootsSpec)) handRootsCard

/-- THE TIED CARD OF 'ragpickerlaw15.HandBegins'. -/
def handBeginsCard : Claim7 := { stood := { row := handBeginsRow, standIns := [], harness := (true, "3ca39b8cb8df8b7f114e5f363a39ae430937b04439e959a0177a439921cf20cd"), looks := false }, kinds := [], alts := [], laidByText := true, laidKinds := [.widerDeep], laidTests := true, laidLooks := .later }
def HandBeginsCardSaid : Prop := Claim7.holds Tryd.pinned (.plain (OpenSpec.ofChange handBeginsSpec)) handBeginsCard

/-- THE SECOND FORM's CARD OF 'ragpickerlaw15.HandAll'. -/
def handAllUptoCard : Claim7 := { stood := { row := handAllUptoRow, standIns := [], harness := (true, "3ca39b8cb8df8b7f114e5f363a39ae430937b04439e959a0177a439921cf20cd"), looks := false }, kinds := [], alts := [], laidByText := true, laidKinds := [.widerDeep], laidTests := true, laidLooks := .later }
def HandAllUptoCardSaid : Prop := Claim7.holds Tryd.pinned (.plain (OpenSpec.upto handAllSpec)) handAllUptoCard

/-- THE SECOND FORM's CARD OF 'ragpickerlaw15.HandOnce'. -/
def handOnceUptoCard : Claim7 := { stood := { row := handOnceUptoRow, standIns := [], harness := (true, "3ca39b8cb8df8b7f114e5f363a39ae430937b04439e959a0177a439921cf20cd"), looks := false }, kinds := [], alts := [], laidByText := true, laidKinds := [.widerDeep], laidTests := true, laidLooks := .later }
def HandOnceUptoCardSaid : Prop := Claim7.holds Tryd.pinned (.plain (OpenSpec.upto handOnceSpec)) handOnceUptoCard

/-- THE SECOND FORM's CARD OF 'ragpickerlaw15.HandRoots'. -/
def handRootsUptoCard : Claim7 := { stood := { row := handRootsUptoRow, standIns := [], harness := (true, "3ca39b8cb8df8b7f114e5f363a39ae430937b04439e959a0177a439921cf20cd"), looks := false }, kinds := [], alts := [], laidByText := true, laidKinds := [.widerDeep], laidTests := true, laidLooks := .later }
def HandRootsUptoCardSaid : Prop := Claim7.holds Tryd.pinned (.plain (OpenSpec.upto handRootsSpec)) handRootsUptoCard

/-- THE SECOND FORM's CARD OF 'ragpickerlaw15.HandBegins'. -/
def handBeginsUptoCard : Claim7 := { stood := { row := handBeginsUptoRow, standIns := [], harness := (true, "3ca39b8cb8df8b7f114e5f363a39ae430937b04439e959a0177a439921cf20cd"), looks := false }, kinds := [], alts := [], laidByText := true, laidKinds := [.widerDeep], laidTests := true, laidLooks := .later }
def HandBeginsUptoCardSaid : Prop := Claim7.holds Tryd.pinned (.plain (OpenSpec.upto handBeginsSpec)) handBeginsUptoCard
end Rows
end Go.Proofs.YtpaidgcpjeagkaaDoor
