/- Walks: what threads hold. -/
import Derived.Test.YtpaidgcpjeagkaaGreatDoorAbsBase1
import Derived.Test.YtpaidgcpjeagkaaGreatDoorWClone1
set_option linter.all false
set_option linter.unusedVariables false
set_option linter.unusedSimpArgs false
namespace Go.Abs
open Go.Proofs Go.Proofs.YtpaidgcpjeagkaaGreatDoor
set_option maxRecDepth 8000


theorem in_spec (a b c : Int) : Spec X 35 [] [.int a, .int b, .int c] (Ret [] (.bo (decide (a ≥ b) && decide (a ≤ c)))) := by
  refine spec_go X_ok Tryz.f35 (by kernel_rfl) (by kernel_rfl) (by kernel_rfl) fun _ _ => ⟨rfl, ?_⟩
  show ARet _ _ _
  refine ret_bo ?_ ⟨rfl, rfl⟩
  cases decide (a ≥ b) <;> rfl

def Thread.reg (t : Thread) (r : Int) : Int := if r = 0 then t.r0 else if r = 1 then t.r1 else if r = 2 then t.r2 else t.r3
def Thread.setReg (t : Thread) (r a : Int) : Thread := if r = 0 then { t with r0 := a } else if r = 1 then { t with r1 := a } else if r = 2 then { t with r2 := a } else { t with r3 := a }

/-- No list of a thread is longer than a slice may grow. -/
def Thread.ok (t : Thread) : Prop := t.ops.length ≤ most ∧ t.cache.l0.length ≤ most ∧ t.cache.l1.length ≤ most ∧ t.cache.l2.length ≤ most

def Thread.zero : Thread := ⟨false, 0, 0, 0, 0, ⟨[], [], []⟩, 0, 0, 0, [], 0, 0, 0⟩

theorem ArgLe.thread {cs : List CV} {t : Thread} (h : EK.fit .thread cs = some t) : ArgLe (.agg cs) t.tv := .fit .thread cs t h

theorem May_spec (t : Thread) : Spec X 16 [] [t.tv] (Ret [] (.bo (decide (0 ≤ t.stage ∧ t.stage ≤ 3 ∧ 0 ≤ t.root ∧ t.root ≤ 3 ∧ 0 ≤ t.pc ∧ t.pc ≤ 4 ∧ (t.ops.length : Int) ≤ 200 ∧ (t.pc = 0 ∨ 0 < (t.ops.length : Int)))))) := by
  refine spec_go X_ok Tryz.f16 (by kernel_rfl) (by kernel_rfl) (by kernel_rfl) fun _ _ => ⟨rfl, ?_⟩
  show ACall _ _ _ _ _ _
  refine call_ret (in_spec _ _ _) rfl ?_
  show AIf ((!(decide (t.stage ≥ 0) && decide (t.stage ≤ 3))) = false ∧ True) _ _
  refine ⟨fun h1 => ?_, fun h1 => ?_⟩
  · show ACall _ _ _ _ _ _
    refine call_ret (in_spec _ _ _) rfl ?_
    show AIf ((!(decide (t.root ≥ 0) && decide (t.root ≤ 3))) = false ∧ True) _ _
    refine ⟨fun h2 => ?_, fun h2 => ?_⟩
    · show ACall _ _ _ _ _ _
      refine call_ret (in_spec _ _ _) rfl ?_
      show ABr (!(decide (t.pc ≥ 0) && decide (t.pc ≤ 4))) _ _
      refine ⟨fun h3 => ?_, fun h3 => ?_⟩
      · show ARet _ _ _
        refine ret_bo (y := decide (0 ≤ t.stage ∧ t.stage ≤ 3 ∧ 0 ≤ t.root ∧ t.root ≤ 3 ∧ 0 ≤ t.pc ∧ t.pc ≤ 4 ∧ (t.ops.length : Int) ≤ 200 ∧ (t.pc = 0 ∨ 0 < (t.ops.length : Int)))) ?_ ⟨rfl, rfl⟩
        simp at h1 h2 h3 ⊢
        omega
      · show ARet _ _ _
        refine ret_bo (x := bif decide ((t.ops.length : Int) ≤ 200) then (bif decide (t.pc = 0) then true else decide ((t.ops.length : Int) > 0)) else false) ?_ ⟨rfl, rfl⟩
        simp at h1 h2 h3
        simp [h1, h2, h3]
    · show AOb ((!(decide (t.root ≥ 0) && decide (t.root ≤ 3))) = true) _
      refine ⟨by simp at h2 ⊢; omega, ?_⟩
      show ABr true _ _
      refine ⟨fun _ => ?_, fun h => absurd h (by simp)⟩
      show ARet _ _ _
      refine ret_bo ?_ ⟨rfl, rfl⟩
      simp at h1 h2 ⊢
      omega
  · show AOb _ _
    refine ⟨by simp at h1 ⊢; omega, ?_⟩
    show AIf (true = false ∧ True) _ _
    refine ⟨fun h => absurd h.1 (by simp), fun _ => ?_⟩
    show AOb (true = true) _
    refine ⟨rfl, ?_⟩
    show ABr _ _ _
    refine ⟨fun _ => ?_, fun h => absurd h (by simp)⟩
    show ARet _ _ _
    refine ret_bo ?_ ⟨rfl, rfl⟩
    simp at h1 ⊢
    omega

def holdsOf (t : Thread) : List Int := [t.r0, t.r1, t.r2, t.r3, t.x, t.y].filter (· ≠ 0)

end Go.Abs
