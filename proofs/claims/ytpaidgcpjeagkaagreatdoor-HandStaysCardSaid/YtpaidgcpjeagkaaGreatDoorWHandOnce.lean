/- Walks: an answer is one stage, or one register. -/
import Derived.Test.YtpaidgcpjeagkaaGreatDoorWHand4
set_option linter.all false
set_option linter.unusedVariables false
set_option linter.unusedSimpArgs false
namespace Go.Abs
open Go.Proofs Go.Proofs.YtpaidgcpjeagkaaGreatDoor
set_option maxRecDepth 8000

theorem few_ok15 {t : Thread} (h : t.few = true) : t.ok := by
  simp [Thread.few] at h
  unfold Thread.ok most
  omega
theorem few15_of {g : Hp} {c : Col} {t : Thread} (h : few15 g c t = true) : fewH g = true ∧ g.light ∧ g.small ∧ c.work.length ≤ 100 ∧ t.ok := by
  unfold few15 at h
  rw [Bool.and_eq_true, Bool.and_eq_true, decide_eq_true_eq] at h
  exact ⟨h.1, few_light h.1, few_small h.1, h.2.1, few_ok15 h.2.2⟩
theorem work_most {n : Nat} (h : n ≤ 100) : n < most := by unfold most; omega

end Go.Abs
