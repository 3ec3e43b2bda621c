/- Walks: copies of slices. -/
import Derived.Test.YtlknhkocpjjkdaaAbsLib
import Derived.Test.YtlknhkocpjjkdaaAbsBase
set_option linter.all false
set_option linter.unusedVariables false
set_option linter.unusedSimpArgs false
namespace Go.Abs
open Go.Proofs Go.Proofs.Ytlknhkocpjjkdaa

theorem CloneInts_spec (l : List Int) (h : l.length ≤ most) : Spec X 51 [] [.c (.d (.sl .int l))] (Ret [] (.c (.d (.sl .int l)))) := by
  refine spec_go X_ok Try.f51 (by kernel_rfl) (by kernel_rfl) (by kernel_rfl) fun hb _ => ⟨rfl, ?_⟩
  intro b (hnil : b = true → l = [])
  show ABr _ _ _
  refine ⟨fun hb => ?_, fun hb => ?_⟩
  · show ARet _ _ _
    exact ret1 (.nilsl (hnil hb)) ⟨rfl, rfl⟩
  · show AOb (0 + l.length ≤ most) _
    refine ⟨by omega, ?_⟩
    show ARet _ _ _
    exact ret1 (.frz rfl rfl) ⟨rfl, rfl⟩

theorem CloneOps_spec (l : List Op) (h : l.length ≤ most) : Spec X 50 [] [.c (.d (.sl .op l))] (Ret [] (.c (.d (.sl .op l)))) := by
  refine spec_go X_ok Try.f50 (by kernel_rfl) (by kernel_rfl) (by kernel_rfl) fun hb _ => ⟨rfl, ?_⟩
  intro b (hnil : b = true → l = [])
  show ABr _ _ _
  refine ⟨fun hb => ?_, fun hb => ?_⟩
  · show ARet _ _ _
    exact ret1 (.nilsl (hnil hb)) ⟨rfl, rfl⟩
  · show AOb (0 + l.length ≤ most) _
    refine ⟨by omega, ?_⟩
    show ARet _ _ _
    exact ret1 (.frz rfl rfl) ⟨rfl, rfl⟩

end Go.Abs
