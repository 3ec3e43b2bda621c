/- What each law's card asks of the program alone, computed once. -/
import Derived.Test.YtbbakbkmjhhbpaaGreatDoorRows
import Derived.Test.YtbbakbkmjhhbpaaGreatDoorTie
import Derived.Test.YtbbakbkmjhhbpaaGreatDoorCards
import Derived.KernelRfl
import Derived.JoinedOf
set_option linter.all false
set_option linter.unusedVariables false
namespace Go.Proofs.YtbbakbkmjhhbpaaGreatDoor

theorem pEnter : Tryz.pinned.checked.prog.mayEnter = true := by kernel_rfl
theorem pLifts : (false == Tryz.pinned.checked.prog.liftsFinal) = true := by kernel_rfl
theorem pMake : (Tryz.pinned.checked.prog.make == some Make.cut) = true := by kernel_rfl
theorem pMain : Tryz.pinned.checked.prog.mainIs = some (true, "5876f29867aa55d7c05acff11a0e92b4e87e7acaed8b1386b9e733a432c1e816".toList) := by kernel_rfl
theorem pLooks : false = Tryz.pinned.checked.prog.looks [] := by kernel_rfl
theorem and_mk {a b : Bool} (h : a = true) (k : b = true) : (a && b) = true := by rw [h, k]; rfl
end Go.Proofs.YtbbakbkmjhhbpaaGreatDoor
