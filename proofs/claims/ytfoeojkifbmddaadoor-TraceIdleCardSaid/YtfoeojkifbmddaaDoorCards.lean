/-
  DERIVED. GIVEN WITH THE SEED: THE CARDS: each row of YtfoeojkifbmddaaDoorRows.lean that lists a variable, with what it lists TIED to the program's text (the seventh form; the later family's looks); each row that meets fmt, with fmt's text TOLD by the authors' own Lean function (tested against real Go, not proved from fmt's source: count such statements apart). THE CARD IS WHAT COUNTS. Prove the row's statement (the work); the ties are given (YtfoeojkifbmddaaDoorTie.lean); close each card by the builder's one call (the guide's Derived/Test/ToyasCard.lean, 'card_holds'). Laid BY PROGRAM, IN A SANDBOX (cutbox-door.mjs). By AI agents, Wed Nov 11 2026. No macro, syntax, notation, axiom, sorry.
-/
import Derived.Test.YtfoeojkifbmddaaDoorRows
import GoSem.ClaimSeven
namespace Go.Proofs.YtfoeojkifbmddaaDoor
namespace Rows

/-- THE TIED CARD OF 'ragpickerlaw16.TraceIdle'. -/
def traceIdleCard : Claim7 := { stood := { row := traceIdleRow, standIns := [], harness := (true, "08219c06a859b60136e699a3b83b8d74a1bace4552e1d099d9e4108765e858d7"), looks := false }, kinds := [], alts := [], laidByText := true, laidKinds := [.widerDeep], laidTests := true, laidLooks := .later }
def TraceIdleCardSaid : Prop := Claim7.holds Tryd.pinned (.plain (OpenSpec.ofChange traceIdleSpec)) traceIdleCard

/-- THE SECOND FORM's CARD OF 'ragpickerlaw16.TraceIdle'. -/
def traceIdleUptoCard : Claim7 := { stood := { row := traceIdleUptoRow, standIns := [], harness := (true, "08219c06a859b60136e699a3b83b8d74a1bace4552e1d099d9e4108765e858d7"), looks := false }, kinds := [], alts := [], laidByText := true, laidKinds := [.widerDeep], laidTests := true, laidLooks := .later }
def TraceIdleUptoCardSaid : Prop := Claim7.holds Tryd.pinned (.plain (OpenSpec.upto traceIdleSpec)) traceIdleUptoCard
end Rows
end Go.Proofs.YtfoeojkifbmddaaDoor
