/- The context of this seat. -/
import Derived.Test.YtlknhkocpjjkdaaAbsEq
import Derived.Test.YtlknhkocpjjkdaaAbsTypes
import Derived.KernelRfl
set_option linter.all false
set_option linter.unusedVariables false
set_option linter.unusedSimpArgs false
namespace Go.Abs
open Go.Proofs Go.Proofs.Ytlknhkocpjjkdaa
noncomputable def X : Ctx := ⟨Try.prog, tyTab, [], false⟩
theorem X_all : X.tt.all (fun p => tyCheck X.P p && eqOk X.P p) = true := by kernel_rfl
theorem X_mix : X.P.follows .mixedOrders = true := by kernel_rfl
theorem X_ok : XOk X := xok_of X_mix X_all
/-- The same, where slices that are written out are taken for unchanging ones. -/
noncomputable def Xf : Ctx := ⟨Try.prog, tyTab, [], true⟩
theorem Xf_ok : XOk Xf := ⟨X_ok.ty, X_ok.mix, X_ok.kind⟩
theorem Spec.fz {f : Nat} {H : Heap} {args : List TV} {Q : Heap → TV → Prop} (h : Spec Xf f H args Q) : Spec X f H args Q := h
theorem Spec.uz {f : Nat} {H : Heap} {args : List TV} {Q : Heap → TV → Prop} (h : Spec X f H args Q) : Spec Xf f H args Q := h
end Go.Abs
