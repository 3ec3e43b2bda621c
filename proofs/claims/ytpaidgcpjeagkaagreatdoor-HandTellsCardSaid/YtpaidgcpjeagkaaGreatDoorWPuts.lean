/- Walks: the law RegsPuts. -/
import Derived.Test.YtpaidgcpjeagkaaGreatDoorWRef12
set_option linter.all false
set_option linter.unusedVariables false
set_option linter.unusedSimpArgs false
namespace Go.Abs
open Go.Proofs Go.Proofs.YtpaidgcpjeagkaaGreatDoor
set_option maxRecDepth 8000

theorem few_ok {t : Thread} (h : t.few = true) : t.ok := by
  simp [Thread.few] at h
  unfold Thread.ok most
  omega

theorem putsNo (t : Thread) (r a i : Int) (hr : 0 ≤ r ∧ r ≤ 3) (hi : 0 ≤ i ∧ i ≤ 3) : cond (cond (cond (!decide ((0 : Int) = 0)) true (!decide ((0 : Int) = 0))) true (cond (decide (i = r)) (!decide ((t.setReg r a).reg i = a)) false)) true (cond (!decide (i = r)) (!decide ((t.setReg r a).reg i = t.reg i)) false) = false := by
  have hr' : r = 0 ∨ r = 1 ∨ r = 2 ∨ r = 3 := by omega
  have hi' : i = 0 ∨ i = 1 ∨ i = 2 ∨ i = 3 := by omega
  rcases hr' with rfl | rfl | rfl | rfl <;> rcases hi' with rfl | rfl | rfl | rfl <;> simp [Thread.setReg, Thread.reg]

theorem putsBack (t : Thread) (r a : Int) : { t.setReg r a with r0 := t.r0, r1 := t.r1, r2 := t.r2, r3 := t.r3 } = t := by
  cases t
  unfold Thread.setReg
  repeat (first | rfl | split)

theorem putsHeld (t : Thread) (r a : Int) (hr : 0 ≤ r ∧ r ≤ 3) : cond (decide (a = 0)) true (((t.setReg r a).acc 6).any fun x => decide (x = a)) = true := by
  by_cases h : a = 0
  · simp [h]
  · have hr' : r = 0 ∨ r = 1 ∨ r = 2 ∨ r = 3 := by omega
    rw [decide_eq_false h, cond_false, List.any_eq_true]
    refine ⟨a, ?_, by simp⟩
    rcases hr' with rfl | rfl | rfl | rfl <;> simp [Thread.acc, Thread.six, Thread.setReg, h]

end Go.Abs
