/- Walks: the object of a register. -/
import Derived.Test.YtkalcaokmadpjaaDoorWRef07
import Derived.Test.YtkalcaokmadpjaaDoorWRef12
import Derived.Test.YtkalcaokmadpjaaDoorWStages
set_option linter.all false
set_option linter.unusedVariables false
set_option linter.unusedSimpArgs false
namespace Go.Abs
open Go.Proofs Go.Proofs.YtkalcaokmadpjaaDoor
set_option maxRecDepth 8000

def objE (g : Hp) (t : Thread) (r : Int) : Int := if 0 ≤ r ∧ r ≤ 3 then (if headE g (t.reg r) = 0 then 0 else 5) else 1
def objA (g : Hp) (t : Thread) (r : Int) : Int := if 0 ≤ r ∧ r ≤ 3 then (if headE g (t.reg r) = 0 then t.reg r else 0) else 0
def objN (g : Hp) (t : Thread) (r : Int) : Int := if 0 ≤ r ∧ r ≤ 3 then (if headE g (t.reg r) = 0 then (headH g (t.reg r)).n else 0) else 0

theorem Object_spec (g : Hp) (t : Thread) (r : Int) (hl : g.light) : Spec X 43 [] [g.tv, t.tv, .int r] (Ret [] (.tup [.int (objA g t r), .int (objN g t r), .int (objE g t r)])) := by
  refine spec_go X_ok Tryd.f43 (by kernel_rfl) (by kernel_rfl) (by kernel_rfl) fun hb hH => ⟨rfl, ?_⟩
  unfold objA objN objE
  by_cases h : 0 ≤ r ∧ r ≤ 3
  · rw [if_pos h, if_pos h, if_pos h]
    show ACall _ _ _ _ _ _
    refine call_ret (Get_spec t r h) rfl ?_
    show ABr _ _ _
    refine ⟨fun h => absurd h (by decide), fun _ => ?_⟩
    show ACall _ _ _ _ _ _
    refine call_ret (hHead_spec g (t.reg r) hl) rfl ?_
    by_cases h0 : headE g (t.reg r) = 0
    · rw [if_pos h0, if_pos h0, if_pos h0, h0]
      show ABr _ _ _
      refine ⟨fun h => absurd h (by decide), fun _ => ?_⟩
      show ARet _ _ _
      exact ret_d rfl ⟨rfl, rfl⟩
    · rw [if_neg h0, if_neg h0, if_neg h0]
      show ABr _ _ _
      refine ⟨fun _ => ?_, fun h => absurd h (by simpa using h0)⟩
      show ARet _ _ _
      exact ret_d rfl ⟨rfl, rfl⟩
  · rw [if_neg h, if_neg h, if_neg h]
    show ACall _ _ _ _ _ _
    refine call_ret (Get_bad t r h) rfl ?_
    show ABr _ _ _
    refine ⟨fun _ => ?_, fun h => absurd h (by decide)⟩
    show ARet _ _ _
    exact ret_d rfl ⟨rfl, rfl⟩

theorem RegsObject_spec (g : Hp) (hw : ∀ x ∈ g.w, I64 x) (t : Thread) (r : Int) : Spec X 10 [] [g.tv, t.tv, .int r] (Ret [] (.bo true)) := by
  refine spec_go X_ok Tryd.f10 (by kernel_rfl) (by kernel_rfl) (by kernel_rfl) fun hb hH => ⟨rfl, ?_⟩
  show ACall _ _ _ _ _ _
  refine call_ret (awake12_spec) rfl ?_
  show ACall _ _ _ _ _ _
  refine call_ret (Few_spec g) rfl ?_
  show ACall _ _ _ _ _ _
  refine call_ret (Few12_spec t) rfl ?_
  show ABr (bif (bif !true then true else !fewH g) then true else !t.few) _ _
  refine ⟨fun h => ?_, fun h => ?_⟩
  · show ARet _ _ _
    exact ret_d rfl ⟨rfl, rfl⟩
  have hc : fewH g = true ∧ t.few = true := by
    cases hf : fewH g with
    | false => rw [hf] at h; exact absurd h (by simp)
    | true => rw [hf] at h; exact ⟨rfl, by simpa using h⟩
  have hl := few_light hc.1
  show ACall _ _ _ _ _ _
  refine call_ret (Object_spec g t r hl) rfl ?_
  unfold objA objN objE
  by_cases h : 0 ≤ r ∧ r ≤ 3
  · rw [if_pos h, if_pos h, if_pos h]
    show ACall _ _ _ _ _ _
    refine call_ret (Get_spec t r h) rfl ?_
    show ABr _ _ _
    refine ⟨fun h => absurd h (by decide), fun _ => ?_⟩
    show ACall _ _ _ _ _ _
    refine call_ret (rHead7_spec g (t.reg r) hl hw) rfl ?_
    by_cases h0 : headE g (t.reg r) = 0
    · rw [if_pos h0, if_pos h0, if_pos h0, h0]
      show ABr _ _ _
      refine ⟨fun h => absurd h (by decide), fun _ => ?_⟩
      show ARet _ _ _
      refine ret_bo (x := bif (bif true then t.reg r == t.reg r else false) then (headH g (t.reg r)).n == (headH g (t.reg r)).n else false) ?_ ⟨rfl, rfl⟩
      simp
    · rw [if_neg h0, if_neg h0, if_neg h0]
      show ABr _ _ _
      refine ⟨fun _ => ?_, fun h => absurd h (by simpa using h0)⟩
      show ARet _ _ _
      exact ret_d rfl ⟨rfl, rfl⟩
  · rw [if_neg h, if_neg h, if_neg h]
    show ACall _ _ _ _ _ _
    refine call_ret (Get_bad t r h) rfl ?_
    show ABr _ _ _
    refine ⟨fun _ => ?_, fun h => absurd h (by decide)⟩
    show ARet _ _ _
    exact ret_d rfl ⟨rfl, rfl⟩
end Go.Abs
