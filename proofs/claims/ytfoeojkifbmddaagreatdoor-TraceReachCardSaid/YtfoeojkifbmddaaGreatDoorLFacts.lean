/- What each law's card asks of the program alone, computed once. -/
import Derived.Test.YtfoeojkifbmddaaGreatDoorRows
import Derived.Test.YtfoeojkifbmddaaGreatDoorTie
import Derived.Test.YtfoeojkifbmddaaGreatDoorCards
import Derived.KernelRfl
import Derived.JoinedOf
set_option linter.all false
set_option linter.unusedVariables false
namespace Go.Proofs.YtfoeojkifbmddaaGreatDoor

theorem pEnter : Tryz.pinned.checked.prog.mayEnter = true := by kernel_rfl
theorem pLifts : (false == Tryz.pinned.checked.prog.liftsFinal) = true := by kernel_rfl
theorem pMake : (Tryz.pinned.checked.prog.make == some Make.cut) = true := by kernel_rfl
theorem pMain : Tryz.pinned.checked.prog.mainIs = some (true, "07b0e4ef195b62fa1e939d9b7ad2b6d19261dd2d2ccfd86529d16a82c967b43b".toList) := by kernel_rfl
theorem pLooks : false = Tryz.pinned.checked.prog.looks [] := by kernel_rfl
theorem and_mk {a b : Bool} (h : a = true) (k : b = true) : (a && b) = true := by rw [h, k]; rfl
end Go.Proofs.YtfoeojkifbmddaaGreatDoor
