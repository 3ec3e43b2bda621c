/-
  DERIVED. GIVEN WITH THE SEED: THE PROGRAM's TIES (one call each: nine closed facts by the kernel) AND EACH ROW's TIE, after the 31st guide's Derived/Test/Toyas{Tie, Card}.lean. No idea stands in it: it is a product of the set-up. Laid BY PROGRAM, IN A SANDBOX (cutbox-door.mjs). By AI agents, Wed Nov 11 2026. No macro, syntax, notation, axiom, sorry.
-/
import Derived.Test.YtfoeojkifbmddaaGreatDoorRows
import Derived.LaidByTextLater
import Derived.SevenTiedAt
import Derived.LaidSub
import Derived.LaidOnce
namespace Go.Proofs.YtfoeojkifbmddaaGreatDoor
open Go
set_option maxRecDepth 100000
theorem seatTie1 : Tryz.prog.laidByTextLater [("ragpicker/class.words", Rows.laid_ragpicker_class_words)] [.widerDeep] true :=
  Program.laidByTextLater_by_one 14 8 4 (by kernel_rfl) (by kernel_rfl) (by kernel_rfl) (by kernel_rfl) (by kernel_rfl) (by kernel_rfl) (fun _ _ => by kernel_rfl)
theorem noOwnUnsafe : Tryz.pinned.checked.prog.headLifts.contains "ownunsafe" = false := by kernel_rfl
theorem tie : Tryz.prog.laidByTextLater [("ragpicker/class.words", Rows.laid_ragpicker_class_words)] [.widerDeep] true :=
  Program.laidByTextLater.sub seatTie1 ["ragpicker/class.words"] (by kernel_rfl) (by kernel_rfl)
theorem traceKnows_row_tie : Rows.traceKnowsRow.laidByTextAt .later Tryz.pinned [.widerDeep] true :=
  OpenClaim.laidByTextAt_later rfl rfl tie noOwnUnsafe
theorem traceEnds_row_tie : Rows.traceEndsRow.laidByTextAt .later Tryz.pinned [.widerDeep] true :=
  OpenClaim.laidByTextAt_later rfl rfl tie noOwnUnsafe
theorem traceKeeps_row_tie : Rows.traceKeepsRow.laidByTextAt .later Tryz.pinned [.widerDeep] true :=
  OpenClaim.laidByTextAt_later rfl rfl tie noOwnUnsafe
theorem traceReach_row_tie : Rows.traceReachRow.laidByTextAt .later Tryz.pinned [.widerDeep] true :=
  OpenClaim.laidByTextAt_later rfl rfl tie noOwnUnsafe
theorem traceKnowsUpto_row_tie : Rows.traceKnowsUptoRow.laidByTextAt .later Tryz.pinned [.widerDeep] true :=
  OpenClaim.laidByTextAt_later rfl rfl tie noOwnUnsafe
theorem traceEndsUpto_row_tie : Rows.traceEndsUptoRow.laidByTextAt .later Tryz.pinned [.widerDeep] true :=
  OpenClaim.laidByTextAt_later rfl rfl tie noOwnUnsafe
theorem traceKeepsUpto_row_tie : Rows.traceKeepsUptoRow.laidByTextAt .later Tryz.pinned [.widerDeep] true :=
  OpenClaim.laidByTextAt_later rfl rfl tie noOwnUnsafe
theorem traceReachUpto_row_tie : Rows.traceReachUptoRow.laidByTextAt .later Tryz.pinned [.widerDeep] true :=
  OpenClaim.laidByTextAt_later rfl rfl tie noOwnUnsafe
end Go.Proofs.YtfoeojkifbmddaaGreatDoor
