/- What each law's card asks of the program alone, computed once. -/
import Derived.Test.YtpkngagppfoccaaGreatDoorRows
import Derived.Test.YtpkngagppfoccaaGreatDoorTie
import Derived.Test.YtpkngagppfoccaaGreatDoorCards
import Derived.KernelRfl
import Derived.JoinedOf
set_option linter.all false
set_option linter.unusedVariables false
namespace Go.Proofs.YtpkngagppfoccaaGreatDoor

theorem pEnter : Tryz.pinned.checked.prog.mayEnter = true := by kernel_rfl
theorem pLifts : (false == Tryz.pinned.checked.prog.liftsFinal) = true := by kernel_rfl
theorem pMake : (Tryz.pinned.checked.prog.make == some Make.cut) = true := by kernel_rfl
theorem pMain : Tryz.pinned.checked.prog.mainIs = some (true, "a195edcdba80d1dfb1ba6a121e950a8c32c7d6bf0ac7a84d33dc2ee33375e754".toList) := by kernel_rfl
theorem pLooks : false = Tryz.pinned.checked.prog.looks [] := by kernel_rfl
theorem and_mk {a b : Bool} (h : a = true) (k : b = true) : (a && b) = true := by rw [h, k]; rfl
end Go.Proofs.YtpkngagppfoccaaGreatDoor
