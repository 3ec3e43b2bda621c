/- Walks: all that a thread holds. -/
import Derived.Test.YtpaidgcpjeagkaaGreatDoorWRegs
set_option linter.all false
set_option linter.unusedVariables false
set_option linter.unusedSimpArgs false
namespace Go.Abs
open Go.Proofs Go.Proofs.YtpaidgcpjeagkaaGreatDoor
set_option maxRecDepth 8000

def Thread.six (t : Thread) : List Int := [t.r0, t.r1, t.r2, t.r3, t.x, t.y]
def Thread.acc (t : Thread) (i : Nat) : List Int := (t.six.take i).filter fun a => decide (a ≠ 0)

theorem Thread.acc_len (t : Thread) (i : Nat) : (t.acc i).length ≤ 6 :=
  Nat.le_trans (List.length_filter_le _ _) (by simp [Thread.six]; omega)
theorem Thread.acc_step (t : Thread) (i : Nat) {a : Int} (h : t.six[i]? = some a) : t.acc (i + 1) = if a = 0 then t.acc i else t.acc i ++ [a] := by
  unfold Thread.acc
  rw [List.take_add_one, h, List.filter_append]
  by_cases ha : a = 0 <;> simp [ha]
theorem Thread.acc_most (t : Thread) (i : Nat) : (t.acc i).length + 1 ≤ most := by
  have := t.acc_len i
  unfold most
  omega

end Go.Abs
