/- What each law's card asks of the program alone, computed once. -/
import Derived.Test.YtpaidgcpjeagkaaGreatDoorRows
import Derived.Test.YtpaidgcpjeagkaaGreatDoorTie
import Derived.Test.YtpaidgcpjeagkaaGreatDoorCards
import Derived.KernelRfl
import Derived.JoinedOf
set_option linter.all false
set_option linter.unusedVariables false
namespace Go.Proofs.YtpaidgcpjeagkaaGreatDoor

theorem pEnter : Tryz.pinned.checked.prog.mayEnter = true := by kernel_rfl
theorem pLifts : (false == Tryz.pinned.checked.prog.liftsFinal) = true := by kernel_rfl
theorem pMake : (Tryz.pinned.checked.prog.make == some Make.cut) = true := by kernel_rfl
theorem pMain : Tryz.pinned.checked.prog.mainIs = some (true, "e41d30acb51293da43c9d9de65e633eeeb6b2d50508b2edd86c91142a06d8b92".toList) := by kernel_rfl
theorem pLooks : false = Tryz.pinned.checked.prog.looks [] := by kernel_rfl
theorem and_mk {a b : Bool} (h : a = true) (k : b = true) : (a && b) = true := by rw [h, k]; rfl
end Go.Proofs.YtpaidgcpjeagkaaGreatDoor
