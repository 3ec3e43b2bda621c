/- What each law's card asks of the program alone, computed once. -/
import Derived.Test.YtfoeojkifbmddaaDoorRows
import Derived.Test.YtfoeojkifbmddaaDoorTie
import Derived.Test.YtfoeojkifbmddaaDoorCards
import Derived.KernelRfl
import Derived.JoinedOf
set_option linter.all false
set_option linter.unusedVariables false
namespace Go.Proofs.YtfoeojkifbmddaaDoor

theorem pEnter : Tryd.pinned.checked.prog.mayEnter = true := by kernel_rfl
theorem pLifts : (false == Tryd.pinned.checked.prog.liftsFinal) = true := by kernel_rfl
theorem pMake : (Tryd.pinned.checked.prog.make == some Make.cut) = true := by kernel_rfl
theorem pMain : Tryd.pinned.checked.prog.mainIs = some (true, "08219c06a859b60136e699a3b83b8d74a1bace4552e1d099d9e4108765e858d7".toList) := by kernel_rfl
theorem pLooks : false = Tryd.pinned.checked.prog.looks [] := by kernel_rfl
theorem and_mk {a b : Bool} (h : a = true) (k : b = true) : (a && b) = true := by rw [h, k]; rfl
end Go.Proofs.YtfoeojkifbmddaaDoor
