/- Walks: an answer is one stage or one register; what is in the registers. -/
import Derived.Test.YtpaidgcpjeagkaaGreatDoorWHand4
set_option linter.all false
set_option linter.unusedVariables false
set_option linter.unusedSimpArgs false
namespace Go.Abs
open Go.Proofs Go.Proofs.YtpaidgcpjeagkaaGreatDoor
set_option maxRecDepth 8000

theorem few_ok15 {t : Thread} (h : t.few = true) : t.ok := by
  simp [Thread.few] at h
  unfold Thread.ok most
  omega
theorem few15_of {g : Hp} {c : Col} {t : Thread} (h : few15 g c t = true) : fewH g = true ∧ g.light ∧ g.small ∧ c.work.length ≤ 100 ∧ t.ok := by
  unfold few15 at h
  rw [Bool.and_eq_true, Bool.and_eq_true, decide_eq_true_eq] at h
  exact ⟨h.1, few_light h.1, few_small h.1, h.2.1, few_ok15 h.2.2⟩
theorem work_most {n : Nat} (h : n ≤ 100) : n < most := by unfold most; omega

end Go.Abs

namespace Go.Abs
open Go.Proofs Go.Proofs.YtpaidgcpjeagkaaGreatDoor
set_option maxRecDepth 8000

/-- So many answers, and how it stands behind them. -/
structure RootsAt (g : Hp) (c : Col) (t : Thread) (n : Nat) (k : Hp) (d : Col) (u : Thread) : Prop where
  ans : Ans g c t n k d u
  roots : Roots c n k u

theorem few_ans {g k : Hp} (h : fewH k = fewH g) (hf : fewH g = true) : k.light ∧ k.small := ⟨few_light (h.trans hf), few_small (h.trans hf)⟩
theorem ok_ans {t u : Thread} (h : SameT t u) (hk : t.ok) : u.ok := by
  obtain ⟨h1, h2, h3, h4⟩ := hk
  exact ⟨by rw [h.ops]; exact h1, by rw [h.cache]; exact h2, by rw [h.cache]; exact h3, by rw [h.cache]; exact h4⟩

end Go.Abs
