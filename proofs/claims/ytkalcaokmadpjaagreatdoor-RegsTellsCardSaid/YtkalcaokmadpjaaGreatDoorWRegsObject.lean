/- Walks: the object of a register. -/
import Derived.Test.YtkalcaokmadpjaaGreatDoorWRef07
import Derived.Test.YtkalcaokmadpjaaGreatDoorWRef12
import Derived.Test.YtkalcaokmadpjaaGreatDoorWStages
set_option linter.all false
set_option linter.unusedVariables false
set_option linter.unusedSimpArgs false
namespace Go.Abs
open Go.Proofs Go.Proofs.YtkalcaokmadpjaaGreatDoor
set_option maxRecDepth 8000

def objE (g : Hp) (t : Thread) (r : Int) : Int := if 0 ≤ r ∧ r ≤ 3 then (if headE g (t.reg r) = 0 then 0 else 5) else 1
def objA (g : Hp) (t : Thread) (r : Int) : Int := if 0 ≤ r ∧ r ≤ 3 then (if headE g (t.reg r) = 0 then t.reg r else 0) else 0
def objN (g : Hp) (t : Thread) (r : Int) : Int := if 0 ≤ r ∧ r ≤ 3 then (if headE g (t.reg r) = 0 then (headH g (t.reg r)).n else 0) else 0

theorem Object_spec (g : Hp) (t : Thread) (r : Int) (hl : g.light) : Spec X 14 [] [g.tv, t.tv, .int r] (Ret [] (.tup [.int (objA g t r), .int (objN g t r), .int (objE g t r)])) := by
  refine spec_go X_ok Tryz.f14 (by kernel_rfl) (by kernel_rfl) (by kernel_rfl) fun hb hH => ⟨rfl, ?_⟩
  unfold objA objN objE
  by_cases h : 0 ≤ r ∧ r ≤ 3
  · rw [if_pos h, if_pos h, if_pos h]
    show ACall _ _ _ _ _ _
    refine call_ret (Get_spec t r h) rfl ?_
    show ABr _ _ _
    refine ⟨fun h => absurd h (by decide), fun _ => ?_⟩
    show ACall _ _ _ _ _ _
    refine call_ret (hHead_spec g (t.reg r) hl) rfl ?_
    by_cases h0 : headE g (t.reg r) = 0
    · rw [if_pos h0, if_pos h0, if_pos h0, h0]
      show ABr _ _ _
      refine ⟨fun h => absurd h (by decide), fun _ => ?_⟩
      show ARet _ _ _
      exact ret_d rfl ⟨rfl, rfl⟩
    · rw [if_neg h0, if_neg h0, if_neg h0]
      show ABr _ _ _
      refine ⟨fun _ => ?_, fun h => absurd h (by simpa using h0)⟩
      show ARet _ _ _
      exact ret_d rfl ⟨rfl, rfl⟩
  · rw [if_neg h, if_neg h, if_neg h]
    show ACall _ _ _ _ _ _
    refine call_ret (Get_bad t r h) rfl ?_
    show ABr _ _ _
    refine ⟨fun _ => ?_, fun h => absurd h (by decide)⟩
    show ARet _ _ _
    exact ret_d rfl ⟨rfl, rfl⟩

end Go.Abs
