/- Walks: the example of layer 12, and what is said of a thread's stages. -/
import Derived.Test.YtkalcaokmadpjaaGreatDoorWHolds
import Derived.Test.YtkalcaokmadpjaaGreatDoorWClone1
set_option linter.all false
set_option linter.unusedVariables false
set_option linter.unusedSimpArgs false
namespace Go.Abs
open Go.Proofs Go.Proofs.YtkalcaokmadpjaaGreatDoor
set_option maxRecDepth 8000

def t216 : Thread := Thread.zero.setReg 2 16

theorem awake12_spec : Spec X 6 [] [] (Ret [] (.bo true)) := by
  refine spec_go X_ok Tryz.f6 (by kernel_rfl) (by kernel_rfl) (by kernel_rfl) fun _ _ => ⟨rfl, ?_⟩
  show ACall _ _ _ _ _ _
  refine call_ret ((Put_spec Thread.zero 2 16 ⟨by decide, by decide, by decide, by decide⟩ (by decide)).args (.cons _ _ _ _ (.thread rfl) (.cons _ _ _ _ (.refl _) (.cons _ _ _ _ (.refl _) .nil)))) rfl ?_
  show ACall _ _ _ _ _ _
  refine call_ret (Get_spec t216 2 (by decide)) rfl ?_
  show AIf _ _ _
  refine ⟨fun _ => ?_, fun h => absurd ⟨rfl, trivial⟩ h⟩
  show ACall _ _ _ _ _ _
  refine call_ret (Holds_spec t216) rfl ?_
  show ACall _ _ _ _ _ _
  refine call_ret (Ints_spec _ [16]) rfl ?_
  show AIf _ _ _
  refine ⟨fun _ => ?_, fun h => absurd ⟨rfl, trivial⟩ h⟩
  show ACall _ _ _ _ _ _
  refine call_ret (May_spec t216) rfl ?_
  show ARet _ _ _
  exact ret_bo (y := true) rfl ⟨rfl, rfl⟩

end Go.Abs
