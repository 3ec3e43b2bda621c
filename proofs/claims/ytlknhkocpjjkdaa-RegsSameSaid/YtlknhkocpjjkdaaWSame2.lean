/- Walks: the law RegsSame. -/
import Derived.Test.YtlknhkocpjjkdaaWSame
set_option linter.all false
set_option linter.unusedVariables false
set_option linter.unusedSimpArgs false
namespace Go.Abs
open Go.Proofs Go.Proofs.Ytlknhkocpjjkdaa
set_option maxRecDepth 8000

theorem RegsSame_spec (t : Thread) (r : Int) : Spec X 5 [] [t.tv, .int r] (Ret [] (.bo true)) := by
  refine spec_go X_ok Try.f5 (by kernel_rfl) (by kernel_rfl) (by kernel_rfl) fun _ _ => ⟨rfl, ?_⟩
  show ACall _ _ _ _ _ _
  refine call_ret awake12_spec rfl ?_
  show ACall _ _ _ _ _ _
  refine call_ret (Few12_spec t) rfl ?_
  show ABr (cond (!true) true (!t.few)) _ _
  refine ⟨fun _ => ?_, fun h1 => ?_⟩
  · show ARet _ _ _
    exact ret_bo (y := true) rfl ⟨rfl, rfl⟩
  · have hok : t.ok := few_ok (by simpa using h1)
    by_cases hr : 0 ≤ r ∧ r ≤ 3
    · have hr' : r = 0 ∨ r = 1 ∨ r = 2 ∨ r = 3 := by omega
      rcases hr' with rfl | rfl | rfl | rfl
      · show ACall _ _ _ _ _ _
        refine call_ret (Get_spec t _ (by decide)) rfl ?_
        show ACall _ _ _ _ _ _
        refine call_ret (Put_spec t _ _ hok (by decide)) rfl ?_
        show ABr _ _ _
        refine ⟨fun hb => absurd hb (by decide), fun _ => ?_⟩
        show ABr _ _ _
        refine ⟨fun _ => ?_, fun hb => absurd hb (by decide)⟩
        show ADCall _ _ _ _ _ _
        refine .mk [] _ (rSame12_spec t t) rfl ?_
        show ABr (decide (t = t)) _ _
        refine ⟨fun _ => ?_, fun hb => absurd hb (by simp)⟩
        show ADCall _ _ _ _ _ _
        refine .mk [] _ (May_spec t) rfl ?_
        show ADCall _ _ _ _ _ _
        refine .mk [] _ (May_spec t) rfl ?_
        show ABr _ _ _
        refine ⟨fun _ => ?_, fun hb => absurd hb (by rw [beq_self_eq_true]; decide)⟩
        show AOb _ _
        refine ⟨by decide, ?_⟩
        show ARet _ _ _
        refine ret_bo (x := decide (t.r0 = t.r0)) ?_ ⟨rfl, rfl⟩
        simp
      · show ACall _ _ _ _ _ _
        refine call_ret (Get_spec t _ (by decide)) rfl ?_
        show ACall _ _ _ _ _ _
        refine call_ret (Put_spec t _ _ hok (by decide)) rfl ?_
        show ABr _ _ _
        refine ⟨fun hb => absurd hb (by decide), fun _ => ?_⟩
        show ABr _ _ _
        refine ⟨fun _ => ?_, fun hb => absurd hb (by decide)⟩
        show ADCall _ _ _ _ _ _
        refine .mk [] _ (rSame12_spec t t) rfl ?_
        show ABr (decide (t = t)) _ _
        refine ⟨fun _ => ?_, fun hb => absurd hb (by simp)⟩
        show ADCall _ _ _ _ _ _
        refine .mk [] _ (May_spec t) rfl ?_
        show ADCall _ _ _ _ _ _
        refine .mk [] _ (May_spec t) rfl ?_
        show ABr _ _ _
        refine ⟨fun _ => ?_, fun hb => absurd hb (by rw [beq_self_eq_true]; decide)⟩
        show AOb _ _
        refine ⟨by decide, ?_⟩
        show ARet _ _ _
        refine ret_bo (x := decide (t.r1 = t.r1)) ?_ ⟨rfl, rfl⟩
        simp
      · show ACall _ _ _ _ _ _
        refine call_ret (Get_spec t _ (by decide)) rfl ?_
        show ACall _ _ _ _ _ _
        refine call_ret (Put_spec t _ _ hok (by decide)) rfl ?_
        show ABr _ _ _
        refine ⟨fun hb => absurd hb (by decide), fun _ => ?_⟩
        show ABr _ _ _
        refine ⟨fun _ => ?_, fun hb => absurd hb (by decide)⟩
        show ADCall _ _ _ _ _ _
        refine .mk [] _ (rSame12_spec t t) rfl ?_
        show ABr (decide (t = t)) _ _
        refine ⟨fun _ => ?_, fun hb => absurd hb (by simp)⟩
        show ADCall _ _ _ _ _ _
        refine .mk [] _ (May_spec t) rfl ?_
        show ADCall _ _ _ _ _ _
        refine .mk [] _ (May_spec t) rfl ?_
        show ABr _ _ _
        refine ⟨fun _ => ?_, fun hb => absurd hb (by rw [beq_self_eq_true]; decide)⟩
        show AOb _ _
        refine ⟨by decide, ?_⟩
        show ARet _ _ _
        refine ret_bo (x := decide (t.r2 = t.r2)) ?_ ⟨rfl, rfl⟩
        simp
      · show ACall _ _ _ _ _ _
        refine call_ret (Get_spec t _ (by decide)) rfl ?_
        show ACall _ _ _ _ _ _
        refine call_ret (Put_spec t _ _ hok (by decide)) rfl ?_
        show ABr _ _ _
        refine ⟨fun hb => absurd hb (by decide), fun _ => ?_⟩
        show ABr _ _ _
        refine ⟨fun _ => ?_, fun hb => absurd hb (by decide)⟩
        show ADCall _ _ _ _ _ _
        refine .mk [] _ (rSame12_spec t t) rfl ?_
        show ABr (decide (t = t)) _ _
        refine ⟨fun _ => ?_, fun hb => absurd hb (by simp)⟩
        show ADCall _ _ _ _ _ _
        refine .mk [] _ (May_spec t) rfl ?_
        show ADCall _ _ _ _ _ _
        refine .mk [] _ (May_spec t) rfl ?_
        show ABr _ _ _
        refine ⟨fun _ => ?_, fun hb => absurd hb (by rw [beq_self_eq_true]; decide)⟩
        show AOb _ _
        refine ⟨by decide, ?_⟩
        show ARet _ _ _
        refine ret_bo (x := decide (t.r3 = t.r3)) ?_ ⟨rfl, rfl⟩
        simp
    · show ACall _ _ _ _ _ _
      refine call_ret (Get_bad t r hr) rfl ?_
      show ACall _ _ _ _ _ _
      refine call_ret (Put_bad t r _ hr) rfl ?_
      show ABr _ _ _
      refine ⟨fun _ => ?_, fun hb => absurd hb (by decide)⟩
      show ARet _ _ _
      refine ret_bo (x := cond (cond (decide ((1 : Int) = 1)) (decide ((0 : Int) = 0)) false) (cond (decide (r < 0)) true (decide (r > 3))) false) ?_ ⟨rfl, rfl⟩
      simp
      omega
end Go.Abs
