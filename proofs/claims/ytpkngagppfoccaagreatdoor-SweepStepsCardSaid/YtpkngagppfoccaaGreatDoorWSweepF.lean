/- Walks: a sweep ends; what is left is what was to be left. -/
import Derived.Test.YtpkngagppfoccaaGreatDoorWSweepE
import Derived.Test.YtpkngagppfoccaaGreatDoorWRef07
set_option linter.all false
set_option linter.unusedVariables false
set_option linter.unusedSimpArgs false
namespace Go.Abs
open Go.Proofs Go.Proofs.YtpkngagppfoccaaGreatDoor
set_option maxRecDepth 8000

theorem rFate18_spec (g : Hp) (c : Col) (a : Int) (hl : g.light) (hw : ∀ x ∈ g.w, I64 x) : Spec X 17 [] [g.tv, c.tv, .int a] (Ret [] (.int (fateH g c a))) := by
  refine spec_go X_ok Tryz.f17 (by kernel_rfl) (by kernel_rfl) (by kernel_rfl) fun hb hH => ⟨rfl, ?_⟩
  show ACall _ _ _ _ _ _
  refine call_ret (rHead7_spec g a hl hw) rfl ?_
  unfold fateH
  show ABr (bif headE g a != 0 then true else (bif (headH g a).old then !c.major else false)) _ _
  by_cases h1 : headE g a ≠ 0 ∨ ((headH g a).old = true ∧ c.major = false)
  · rw [if_pos h1]
    have e : (bif headE g a != 0 then true else (bif (headH g a).old then !c.major else false)) = true := by
      rcases h1 with k | ⟨k1, k2⟩
      · rw [show (headE g a != 0) = true by simpa using k]; rfl
      · rw [k1, k2]; cases (headE g a != 0) <;> rfl
    rw [e]
    show ABr _ _ _
    refine ⟨fun _ => ?_, fun h => absurd h (by decide)⟩
    show ARet _ _ _
    exact ret_d rfl ⟨rfl, rfl⟩
  · rw [if_neg h1]
    have e : (bif headE g a != 0 then true else (bif (headH g a).old then !c.major else false)) = false := by
      rw [show (headE g a != 0) = false by simpa using fun k => h1 (.inl k)]
      cases ho : (headH g a).old <;> cases hm : c.major <;> first | rfl | exact absurd (.inr ⟨ho, hm⟩) h1
    rw [e]
    show ABr _ _ _
    refine ⟨fun h => absurd h (by decide), fun _ => ?_⟩
    show ABr (decide ((headH g a).mark < c.epoch)) _ _
    by_cases h2 : (headH g a).mark < c.epoch
    · rw [if_pos h2, decide_eq_true h2]
      show ABr _ _ _
      refine ⟨fun _ => ?_, fun h => absurd h (by decide)⟩
      show ARet _ _ _
      exact ret_d rfl ⟨rfl, rfl⟩
    · rw [if_neg h2, decide_eq_false h2]
      show ABr _ _ _
      refine ⟨fun h => absurd h (by decide), fun _ => ?_⟩
      show ABr (bif !(headH g a).old then decide ((headH g a).born < c.epoch) else false) _ _
      by_cases h3 : (headH g a).old = false ∧ (headH g a).born < c.epoch
      · rw [if_pos h3, h3.1, decide_eq_true h3.2]
        show ABr _ _ _
        refine ⟨fun _ => ?_, fun h => absurd h (by decide)⟩
        show ARet _ _ _
        exact ret_d rfl ⟨rfl, rfl⟩
      · rw [if_neg h3, show (bif !(headH g a).old then decide ((headH g a).born < c.epoch) else false) = false by cases ho : (headH g a).old <;> first | rfl | exact decide_eq_false fun k => h3 ⟨ho, k⟩]
        show ABr _ _ _
        refine ⟨fun h => absurd h (by decide), fun _ => ?_⟩
        show ARet _ _ _
        exact ret_d rfl ⟨rfl, rfl⟩

end Go.Abs
