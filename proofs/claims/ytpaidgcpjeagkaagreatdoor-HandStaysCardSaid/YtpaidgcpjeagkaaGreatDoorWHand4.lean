/- Walks: the hand's example and its bounds. -/
import Derived.Test.YtpaidgcpjeagkaaGreatDoorWHand2
import Derived.Test.YtpaidgcpjeagkaaGreatDoorWHand3
import Derived.Test.YtpaidgcpjeagkaaGreatDoorWShade2
import Derived.Test.YtpaidgcpjeagkaaGreatDoorWRef12
set_option linter.all false
set_option linter.unusedVariables false
set_option linter.unusedSimpArgs false
namespace Go.Abs
open Go.Proofs Go.Proofs.YtpaidgcpjeagkaaGreatDoor
set_option maxRecDepth 8000

def few15 (g : Hp) (c : Col) (t : Thread) : Bool := fewH g && (decide (c.work.length ≤ 100) && t.few)

theorem few15_spec (g : Hp) (c : Col) (t : Thread) : Spec X 7 [] [g.tv, c.tv, t.tv] (Ret [] (.bo (few15 g c t))) := by
  refine spec_go X_ok Tryz.f7 (by kernel_rfl) (by kernel_rfl) (by kernel_rfl) fun hb hH => ⟨rfl, ?_⟩
  show ACall _ _ _ _ _ _
  refine call_ret (Few_spec g) rfl ?_
  unfold few15
  have e : decide ((c.work.length : Int) ≤ 100) = decide (c.work.length ≤ 100) := by rw [decide_eq_decide]; omega
  cases hf : fewH g with
  | true =>
    show AIf (decide ((c.work.length : Int) ≤ 100) = true ∧ True) _ _
    rw [e]
    refine ⟨fun h => ?_, fun h => ?_⟩
    · show ACall _ _ _ _ _ _
      refine call_ret (Few12_spec t) rfl ?_
      show ARet _ _ _
      refine ret_bo (x := t.few) ?_ ⟨rfl, rfl⟩
      rw [h.1]
      rfl
    · have h' : decide (c.work.length ≤ 100) = false := Bool.eq_false_iff.2 fun k => h ⟨k, trivial⟩
      show AOb _ _
      refine ⟨by first | exact h' | exact e.trans h', ?_⟩
      show ARet _ _ _
      refine ret_bo (x := false) ?_ ⟨rfl, rfl⟩
      rw [h']
      rfl
  | false =>
    show AIf _ _ _
    refine ⟨fun h => absurd h.1 Bool.false_ne_true, fun _ => ?_⟩
    show AOb _ _
    refine ⟨by rfl, ?_⟩
    show ARet _ _ _
    refine ret_bo (x := false) rfl ⟨rfl, rfl⟩

def c15 : Col := ⟨1, 1, false, [], false, 0, 0, 0, 0, false⟩
def t15 : Thread := ⟨true, 0, 0, 0, 0, ⟨[], [], []⟩, 0, 0, 0, [], 0, 0, 0⟩
def u15 : Thread := ⟨true, 0, 0, 0, 0, ⟨[], [], []⟩, 1, 1, 0, [], 0, 0, 0⟩
theorem v15 : newE 1 = 0 ∧ askedB c15 t15 = true ∧ ansT c15 t15 = u15 ∧ allB c15 [u15] = true ∧ allB c15 [u15, t15] = false := by decide +kernel
theorem n15 : (newH 1).light ∧ (newH 1).small := by
  have h : fewH (newH 1) = true := by decide +kernel
  exact ⟨few_light h, few_small h⟩

set_option maxHeartbeats 2000000 in
theorem awake15_spec : Spec X 6 [] [] (Ret [] (.bo true)) := by
  refine spec_go X_ok Tryz.f6 (by kernel_rfl) (by kernel_rfl) (by kernel_rfl) fun hb hH => ⟨rfl, ?_⟩
  obtain ⟨v1, v2, v3, v4, v5⟩ := v15
  show ACall _ _ _ _ _ _
  refine call_ret (hNew_spec 1) rfl ?_
  show ACall _ _ _ _ _ _
  refine call_ret ((Asked_spec c15 t15).args (.cons _ _ _ _ (.agg _ _ ?_) (.cons _ _ _ _ (.agg _ _ ?_) .nil))) rfl ?_
  · repeat (first | exact .nil | refine .cons _ _ _ ?_ | refine .sl _ _ _ _ _ rfl ?_)
  · repeat (first | exact .nil | refine .cons _ _ _ ?_ | refine .sl _ _ _ _ _ rfl ?_)
  show ACall _ _ _ _ _ _
  refine call_ret ((Answer_spec (newH 1) c15 t15 n15.1 n15.2 (by decide) ⟨by decide, by decide, by decide, by decide⟩).args (.cons _ _ _ _ (.refl _) (.cons _ _ _ _ (.agg _ _ ?_) (.cons _ _ _ _ (.agg _ _ ?_) .nil)))) rfl ?_
  · repeat (first | exact .nil | refine .cons _ _ _ ?_ | refine .sl _ _ _ _ _ rfl ?_)
  · repeat (first | exact .nil | refine .cons _ _ _ ?_ | refine .sl _ _ _ _ _ rfl ?_)
  rw [v1, v2, v3]
  show AIf _ _ _
  refine ⟨fun _ => ?_, fun h => absurd ⟨by decide, trivial⟩ h⟩
  show ACall _ _ _ _ _ _
  refine call_ret ((hAll_spec c15 [u15]).args (.cons _ _ _ _ (.agg _ _ ?_) (.cons _ _ _ _ (.refl _) .nil))) rfl ?_
  · repeat (first | exact .nil | refine .cons _ _ _ ?_ | refine .sl _ _ _ _ _ rfl ?_)
  rw [v4]
  show AIf _ _ _
  refine ⟨fun _ => ?_, fun h => absurd ⟨rfl, trivial⟩ h⟩
  show ACall _ _ _ _ _ _
  refine call_ret ((hAll_spec c15 [u15, t15]).args (.cons _ _ _ _ (.agg _ _ ?_) (.cons _ _ _ _ (.refl _) .nil))) rfl ?_
  · repeat (first | exact .nil | refine .cons _ _ _ ?_ | refine .sl _ _ _ _ _ rfl ?_)
  rw [v5]
  show ARet _ _ _
  refine ret_bo (x := true) rfl ⟨rfl, rfl⟩

/-! All have answered just where each has. -/
theorem allB_append (c : Col) (l m : List Thread) : allB c (l ++ m) = (allB c l && allB c m) := by unfold allB; rw [List.all_append]
theorem allB_one (c : Col) (t : Thread) : allB c [t] = (!t.live || answeredB c t) := by unfold allB; simp
theorem allB_take {l : List Thread} {i : Nat} (h : i < l.length) (c : Col) : allB c (l.take (i + 1)) = (allB c (l.take i) && allB c [l.getD i default]) := by
  rw [← allB_append]
  congr 1
  rw [List.getD_eq_getElem?_getD, List.getElem?_eq_getElem h, List.take_succ, List.getElem?_eq_getElem h]
  rfl

end Go.Abs
