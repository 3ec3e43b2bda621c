/- What each law's card asks of the program alone, computed once. -/
import Derived.Test.YtkalcaokmadpjaaDoorRows
import Derived.Test.YtkalcaokmadpjaaDoorTie
import Derived.Test.YtkalcaokmadpjaaDoorCards
import Derived.KernelRfl
import Derived.JoinedOf
set_option linter.all false
set_option linter.unusedVariables false
namespace Go.Proofs.YtkalcaokmadpjaaDoor

theorem pEnter : Tryd.pinned.checked.prog.mayEnter = true := by kernel_rfl
theorem pLifts : (false == Tryd.pinned.checked.prog.liftsFinal) = true := by kernel_rfl
theorem pMake : (Tryd.pinned.checked.prog.make == some Make.cut) = true := by kernel_rfl
theorem pMain : Tryd.pinned.checked.prog.mainIs = some (true, "947888f5eb4b7e036dd1b8391888dad539299d39abeefd0863858ea44e539fa6".toList) := by kernel_rfl
theorem pLooks : false = Tryd.pinned.checked.prog.looks [] := by kernel_rfl
theorem and_mk {a b : Bool} (h : a = true) (k : b = true) : (a && b) = true := by rw [h, k]; rfl
end Go.Proofs.YtkalcaokmadpjaaDoor
