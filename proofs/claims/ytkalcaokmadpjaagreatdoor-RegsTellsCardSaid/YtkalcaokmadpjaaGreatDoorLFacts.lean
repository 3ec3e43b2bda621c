/- What each law's card asks of the program alone, computed once. -/
import Derived.Test.YtkalcaokmadpjaaGreatDoorRows
import Derived.Test.YtkalcaokmadpjaaGreatDoorTie
import Derived.Test.YtkalcaokmadpjaaGreatDoorCards
import Derived.KernelRfl
import Derived.JoinedOf
set_option linter.all false
set_option linter.unusedVariables false
namespace Go.Proofs.YtkalcaokmadpjaaGreatDoor

theorem pEnter : Tryz.pinned.checked.prog.mayEnter = true := by kernel_rfl
theorem pLifts : (false == Tryz.pinned.checked.prog.liftsFinal) = true := by kernel_rfl
theorem pMake : (Tryz.pinned.checked.prog.make == some Make.cut) = true := by kernel_rfl
theorem pMain : Tryz.pinned.checked.prog.mainIs = some (true, "1b2d3632b984f74940d29db4426c8887c2b3b3b3ad6c2bbe61725c57868e68cf".toList) := by kernel_rfl
theorem pLooks : false = Tryz.pinned.checked.prog.looks [] := by kernel_rfl
theorem and_mk {a b : Bool} (h : a = true) (k : b = true) : (a && b) = true := by rw [h, k]; rfl
end Go.Proofs.YtkalcaokmadpjaaGreatDoor
