/- Walks: what is not asked answers nothing. -/
import Derived.Test.YtpaidgcpjeagkaaGreatDoorWHandRoots
import Derived.Test.YtpaidgcpjeagkaaGreatDoorWSame07
import Derived.Test.YtpaidgcpjeagkaaGreatDoorWRef12
set_option linter.all false
set_option linter.unusedVariables false
set_option linter.unusedSimpArgs false
namespace Go.Abs
open Go.Proofs Go.Proofs.YtpaidgcpjeagkaaGreatDoor
set_option maxRecDepth 8000

set_option maxHeartbeats 2000000 in
theorem HandStays_spec (g : Hp) (c : Col) (t : Thread) : Spec X 3 [] [g.tv, c.tv, t.tv] (Ret [] (.bo true)) := by
  refine spec_go X_ok Tryz.f3 (by kernel_rfl) (by kernel_rfl) (by kernel_rfl) fun hb hH => ⟨rfl, ?_⟩
  show ACall _ _ _ _ _ _
  refine call_ret (awake15_spec) rfl ?_
  show ACall _ _ _ _ _ _
  refine call_ret (few15_spec g c t) rfl ?_
  cases hf : few15 g c t with
  | false =>
    show ABr _ _ _
    refine ⟨fun _ => ?_, fun h => absurd h (by decide)⟩
    show ARet _ _ _
    exact ret_d rfl ⟨rfl, rfl⟩
  | true =>
    obtain ⟨f1, f2, f3, f4, f5⟩ := few15_of hf
    show ABr _ _ _
    refine ⟨fun h => absurd h (by decide), fun _ => ?_⟩
    show ACall _ _ _ _ _ _
    refine call_ret (Asked_spec c t) rfl ?_
    cases ha : askedB c t with
    | true =>
      obtain ⟨a1, a2, a3, a4⟩ := asked_of ha
      have a0 : c.phase ≠ 0 := fun e => by
        unfold answeredB at a4
        rw [if_pos e] at a4
        cases a4
      have hc : (bif (bif decide (c.phase = 0) then true else !decide (t.pc = 0)) then true else !t.live) = false := by
        rw [decide_eq_false a0, decide_eq_true a3, a1]
        rfl
      show AIf ((bif (bif decide (c.phase = 0) then true else !decide (t.pc = 0)) then true else !t.live) = false ∧ true = true ∧ True) _ _
      refine ⟨fun _ => ?_, fun h => absurd ⟨hc, rfl, trivial⟩ h⟩
      show ACall _ _ _ _ _ _
      refine call_ret (hAll_spec c [t]) rfl ?_
      rw [show allB c [t] = false by rw [allB_one, a1, a4]; rfl]
      show ABr _ _ _
      refine ⟨fun h => absurd h (by decide), fun _ => ?_⟩
      show ACall _ _ _ _ _ _
      refine call_ret (Answer_spec g c t f2 f3 (work_most f4) f5) rfl ?_
      show AIf _ _ _
      refine ⟨fun h => absurd h.1 (by decide), fun _ => ?_⟩
      show AOb _ _
      refine ⟨by rfl, ?_⟩
      show ARet _ _ _
      exact ret_d rfl ⟨rfl, rfl⟩
    | false =>
      show AIf _ _ _
      refine ⟨fun h => absurd h.2.1 Bool.false_ne_true, fun _ => ?_⟩
      show AOb _ _
      refine ⟨by exact fun h => absurd h.1 Bool.false_ne_true, ?_⟩
      show ABr _ _ _
      refine ⟨fun h => absurd h (by decide), fun _ => ?_⟩
      show ACall _ _ _ _ _ _
      refine call_ret (Answer_spec g c t f2 f3 (work_most f4) f5) rfl ?_
      rw [ansG_no ha, ansC_no ha, ansT_no ha]
      show AIf _ _ _
      refine ⟨fun _ => ?_, fun h => absurd ⟨rfl, trivial⟩ h⟩
      show ACall _ _ _ _ _ _
      refine call_ret (hSame_spec g g) rfl ?_
      rw [decide_eq_true (show g = g from rfl)]
      show AIf _ _ _
      refine ⟨fun _ => ?_, fun h => absurd ⟨rfl, rfl, trivial⟩ h⟩
      show ACall _ _ _ _ _ _
      refine call_ret (cSame_spec c c) rfl ?_
      rw [decide_eq_true (show c = c from rfl)]
      show AIf _ _ _
      refine ⟨fun _ => ?_, fun h => absurd ⟨rfl, rfl, trivial⟩ h⟩
      show ACall _ _ _ _ _ _
      refine call_ret (rSame12_spec t t) rfl ?_
      rw [decide_eq_true (show t = t from rfl)]
      show ARet _ _ _
      exact ret_d rfl ⟨rfl, rfl⟩
end Go.Abs
