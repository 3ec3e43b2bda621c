/- What each law's card asks of the program alone, computed once. -/
import Derived.Test.YtpaidgcpjeagkaaDoorRows
import Derived.Test.YtpaidgcpjeagkaaDoorTie
import Derived.Test.YtpaidgcpjeagkaaDoorCards
import Derived.KernelRfl
import Derived.JoinedOf
set_option linter.all false
set_option linter.unusedVariables false
namespace Go.Proofs.YtpaidgcpjeagkaaDoor

theorem pEnter : Tryd.pinned.checked.prog.mayEnter = true := by kernel_rfl
theorem pLifts : (false == Tryd.pinned.checked.prog.liftsFinal) = true := by kernel_rfl
theorem pMake : (Tryd.pinned.checked.prog.make == some Make.cut) = true := by kernel_rfl
theorem pMain : Tryd.pinned.checked.prog.mainIs = some (true, "3ca39b8cb8df8b7f114e5f363a39ae430937b04439e959a0177a439921cf20cd".toList) := by kernel_rfl
theorem pLooks : false = Tryd.pinned.checked.prog.looks [] := by kernel_rfl
theorem and_mk {a b : Bool} (h : a = true) (k : b = true) : (a && b) = true := by rw [h, k]; rfl
end Go.Proofs.YtpaidgcpjeagkaaDoor
