/- Walks: the example of layer 6. -/
import Derived.Test.YtlknhkocpjjkdaaWAll
import Derived.Test.YtlknhkocpjjkdaaWInts
set_option linter.all false
set_option linter.unusedVariables false
set_option linter.unusedSimpArgs false
namespace Go.Abs
open Go.Proofs Go.Proofs.Ytlknhkocpjjkdaa
set_option maxRecDepth 8000

theorem ArgLe.lists {cs : List CV} {t : Lists} (h : EK.fit .lists cs = some t) : ArgLe (.agg cs) t.tv := .fit .lists cs t h

def l161820 : Lists := ⟨[16, 18, 20], [], []⟩

theorem awake6_spec : Spec X 23 [] [] (Ret [] (.bo true)) := by
  refine Spec.fz (spec_go Xf_ok Try.f23 (by kernel_rfl) (by kernel_rfl) (by kernel_rfl) fun _ _ => ⟨rfl, ?_⟩)
  have hok : l161820.ok := ⟨by decide, by decide, by decide⟩
  have hz : Lists.zero.ok := ⟨by decide, by decide, by decide⟩
  show ACall _ _ _ _ _ _
  refine call_ret ((Pop_spec l161820 0 (by decide) hok (by decide)).uz.args (.cons _ _ _ _ (.lists rfl) (.cons _ _ _ _ (.refl _) .nil))) rfl ?_
  show ACall _ _ _ _ _ _
  refine call_ret ((Move_spec l161820 Lists.zero 0 2 (by decide) (by decide) (by decide) hok hz (by decide)).uz.args (.cons _ _ _ _ (.lists rfl) (.cons _ _ _ _ (.lists rfl) (.cons _ _ _ _ (.refl _) (.cons _ _ _ _ (.refl _) .nil))))) rfl ?_
  show AOb _ _
  refine ⟨by decide, ?_⟩
  show ACall _ _ _ _ _ _
  refine call_ret (Ints_spec _ [16]).uz rfl ?_
  show AOb _ _
  refine ⟨by decide, ?_⟩
  show ACall _ _ _ _ _ _
  refine call_ret (Ints_spec _ [20, 18]).uz rfl ?_
  show AIf _ _ _
  refine ⟨fun _ => ?_, fun h => absurd ⟨by decide, trivial⟩ h⟩
  show ACall _ _ _ _ _ _
  refine call_ret (Apart12_spec [l161820] (by decide)).uz rfl ?_
  show ARet _ _ _
  refine ret_bo ?_ ⟨rfl, rfl⟩
  decide
end Go.Abs
