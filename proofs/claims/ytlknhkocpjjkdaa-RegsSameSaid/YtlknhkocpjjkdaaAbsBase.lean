/- The context of this seat. -/
import Derived.Test.YtlknhkocpjjkdaaAbsEq
import Derived.Test.YtlknhkocpjjkdaaAbsTypes
import Derived.KernelRfl
set_option linter.all false
set_option linter.unusedVariables false
set_option linter.unusedSimpArgs false
namespace Go.Abs
open Go.Proofs Go.Proofs.Ytlknhkocpjjkdaa
noncomputable def X : Ctx := ⟨Try.prog, tyTab, []⟩
theorem X_all : X.tt.all (fun p => tyCheck X.P p && eqOk X.P p) = true := by kernel_rfl
theorem X_mix : X.P.follows .mixedOrders = true := by kernel_rfl
theorem X_ok : XOk X := xok_of X_mix X_all
end Go.Abs
