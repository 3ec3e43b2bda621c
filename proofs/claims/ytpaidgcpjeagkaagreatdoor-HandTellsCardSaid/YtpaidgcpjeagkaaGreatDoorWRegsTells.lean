/- Walks: threads are as the document says. -/
import Derived.Test.YtpaidgcpjeagkaaGreatDoorWRegsObject
import Derived.Test.YtpaidgcpjeagkaaGreatDoorWPuts
set_option linter.all false
set_option linter.unusedVariables false
set_option linter.unusedSimpArgs false
namespace Go.Abs
open Go.Proofs Go.Proofs.YtpaidgcpjeagkaaGreatDoor
set_option maxRecDepth 8000

theorem out3 {r : Int} : (bif decide (r < 0) then true else decide (r > 3)) = !decide (0 ≤ r ∧ r ≤ 3) := by
  by_cases h1 : r < 0
  · rw [decide_eq_true h1, decide_eq_false (show ¬ (0 ≤ r ∧ r ≤ 3) by omega)]; rfl
  · rw [decide_eq_false h1]
    by_cases h2 : r > 3
    · rw [decide_eq_true h2, decide_eq_false (show ¬ (0 ≤ r ∧ r ≤ 3) by omega)]; rfl
    · rw [decide_eq_false h2, decide_eq_true (show 0 ≤ r ∧ r ≤ 3 by omega)]; rfl

def getA (t : Thread) (r : Int) : Int := if 0 ≤ r ∧ r ≤ 3 then t.reg r else 0
def getE (r : Int) : Int := if 0 ≤ r ∧ r ≤ 3 then 0 else 1
def putT (t : Thread) (r a : Int) : Thread := if 0 ≤ r ∧ r ≤ 3 then t.setReg r a else Thread.zero

theorem rMay12_spec (t : Thread) : Spec X 42 [] [t.tv] (Ret [] (.bo (decide (0 ≤ t.stage ∧ t.stage ≤ 3 ∧ 0 ≤ t.root ∧ t.root ≤ 3 ∧ 0 ≤ t.pc ∧ t.pc ≤ 4 ∧ (t.ops.length : Int) ≤ 200 ∧ (t.pc = 0 ∨ 0 < (t.ops.length : Int)))))) := by
  refine spec_go X_ok Tryz.f42 (by kernel_rfl) (by kernel_rfl) (by kernel_rfl) fun hb hH => ⟨rfl, ?_⟩
  show ABr (bif (bif (bif (bif (bif (bif decide (t.stage < 0) then true else decide (t.stage > 3)) then true else decide (t.root < 0)) then true else decide (t.root > 3)) then true else decide (t.pc < 0)) then true else decide (t.pc > 4)) then true else decide ((t.ops.length : Int) > 200)) _ _
  refine ⟨fun h => ?_, fun h => ?_⟩
  · show ARet _ _ _
    refine ret_bo (x := false) ?_ ⟨rfl, rfl⟩
    simp [Bool.cond_eq_ite] at h
    symm
    apply decide_eq_false
    omega
  · show ARet _ _ _
    refine ret_bo (x := bif decide (t.pc = 0) then true else decide ((t.ops.length : Int) ≥ 1)) ?_ ⟨rfl, rfl⟩
    simp [Bool.cond_eq_ite] at h
    rw [Bool.eq_iff_iff]
    simp [Bool.cond_eq_ite]
    omega

end Go.Abs
