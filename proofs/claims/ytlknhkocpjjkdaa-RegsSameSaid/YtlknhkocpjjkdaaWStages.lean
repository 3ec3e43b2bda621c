/- Walks: the example of layer 12, and what is said of a thread's stages. -/
import Derived.Test.YtlknhkocpjjkdaaWHolds
import Derived.Test.YtlknhkocpjjkdaaWInts
set_option linter.all false
set_option linter.unusedVariables false
set_option linter.unusedSimpArgs false
namespace Go.Abs
open Go.Proofs Go.Proofs.Ytlknhkocpjjkdaa
set_option maxRecDepth 8000

def t216 : Thread := Thread.zero.setReg 2 16

theorem awake12_spec : Spec X 13 [] [] (Ret [] (.bo true)) := by
  refine spec_go X_ok Try.f13 (by kernel_rfl) (by kernel_rfl) (by kernel_rfl) fun _ _ => ⟨rfl, ?_⟩
  show ACall _ _ _ _ _ _
  refine call_ret ((Put_spec Thread.zero 2 16 ⟨by decide, by decide, by decide, by decide⟩ (by decide)).args (.cons _ _ _ _ (.thread rfl) (.cons _ _ _ _ (.refl _) (.cons _ _ _ _ (.refl _) .nil)))) rfl ?_
  show ACall _ _ _ _ _ _
  refine call_ret (Get_spec t216 2 (by decide)) rfl ?_
  show AIf _ _ _
  refine ⟨fun _ => ?_, fun h => absurd ⟨rfl, trivial⟩ h⟩
  show ACall _ _ _ _ _ _
  refine call_ret (Holds_spec t216) rfl ?_
  show ACall _ _ _ _ _ _
  refine call_ret (Ints_spec _ [16]) rfl ?_
  show AIf _ _ _
  refine ⟨fun _ => ?_, fun h => absurd ⟨rfl, trivial⟩ h⟩
  show ACall _ _ _ _ _ _
  refine call_ret (May_spec t216) rfl ?_
  show ARet _ _ _
  exact ret_bo (y := true) rfl ⟨rfl, rfl⟩

theorem RegsStages_spec (c : Col) (t : Thread) : Spec X 6 [] [c.tv, t.tv] (Ret [] (.bo true)) := by
  refine spec_go X_ok Try.f6 (by kernel_rfl) (by kernel_rfl) (by kernel_rfl) fun _ _ => ⟨rfl, ?_⟩
  show ACall _ _ _ _ _ _
  refine call_ret awake12_spec rfl ?_
  show ACall _ _ _ _ _ _
  refine call_ret (Armed_spec c t) rfl ?_
  show ACall _ _ _ _ _ _
  refine call_ret (Black_spec c t) rfl ?_
  show ABr _ _ _
  refine ⟨fun _ => ?_, fun h1 => ?_⟩
  · show ARet _ _ _
    exact ret_bo (y := true) rfl ⟨rfl, rfl⟩
  · show ABr _ _ _
    refine ⟨fun h2 => ?_, fun h2 => ?_⟩
    · show ARet _ _ _
      refine ret_bo (y := true) ?_ ⟨rfl, rfl⟩
      simp [bne] at h1 h2 ⊢
      by_cases he : t.epoch = c.epoch <;> simp [he] at h2 ⊢ <;> omega
    · show ARet _ _ _
      refine ret_bo (y := true) ?_ ⟨rfl, rfl⟩
      simp [bne] at h1 h2 ⊢
      by_cases he : t.epoch = c.epoch <;> simp [he] at h2 ⊢
      have e6 : (c.phase == 6) = decide (c.phase = 6) := rfl
      have e3 : (t.stage == 3) = decide (t.stage = 3) := rfl
      rw [e6, e3, Bool.eq_iff_iff, Bool.eq_iff_iff]
      simp
      omega

end Go.Abs
