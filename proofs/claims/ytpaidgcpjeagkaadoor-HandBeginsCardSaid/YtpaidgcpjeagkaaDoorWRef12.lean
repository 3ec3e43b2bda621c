/- Walks: the document's threads. -/
import Derived.Test.YtpaidgcpjeagkaaDoorWClone1
import Derived.Test.YtpaidgcpjeagkaaDoorWStages
set_option linter.all false
set_option linter.unusedVariables false
set_option linter.unusedSimpArgs false
namespace Go.Abs
open Go.Proofs Go.Proofs.YtpaidgcpjeagkaaDoor
set_option maxRecDepth 8000

def Thread.few (t : Thread) : Bool := decide (t.ops.length ≤ 220) && decide (t.cache.l0.length ≤ 70 ∧ t.cache.l1.length ≤ 70 ∧ t.cache.l2.length ≤ 70)

theorem Few12_spec (t : Thread) : Spec X 13 [] [t.tv] (Ret [] (.bo t.few)) := by
  refine spec_go X_ok Tryd.f13 (by kernel_rfl) (by kernel_rfl) (by kernel_rfl) fun _ _ => ⟨rfl, ?_⟩
  have e (n : Nat) : decide ((n : Int) ≤ 220) = decide (n ≤ 220) := by rw [decide_eq_decide]; omega
  show AIf (decide ((t.ops.length : Int) ≤ 220) = true ∧ True) _ _
  refine ⟨fun h => ?_, fun h => ?_⟩
  · show ACall _ _ _ _ _ _
    refine call_ret (Light_spec t.cache) rfl ?_
    show ARet _ _ _
    refine ret_bo (x := decide (t.cache.l0.length ≤ 70 ∧ t.cache.l1.length ≤ 70 ∧ t.cache.l2.length ≤ 70)) ?_ ⟨rfl, rfl⟩
    unfold Thread.few
    rw [e] at h
    rw [h.1, Bool.true_and]
  · show AOb (decide ((t.ops.length : Int) ≤ 220) = false) _
    refine ⟨by simpa using h, ?_⟩
    show ARet _ _ _
    refine ret_bo (x := false) ?_ ⟨rfl, rfl⟩
    unfold Thread.few
    rw [e] at h
    have : decide (t.ops.length ≤ 220) = false := by simpa using h
    rw [this, Bool.false_and]

theorem Thread.ne {a b : Thread} : a = b ↔ (a.cache = b.cache ∧ a.live = b.live ∧ a.r0 = b.r0 ∧ a.r1 = b.r1 ∧ a.r2 = b.r2 ∧ a.r3 = b.r3 ∧ a.epoch = b.epoch ∧ a.stage = b.stage ∧ a.root = b.root ∧ a.pc = b.pc ∧ a.x = b.x ∧ a.y = b.y) ∧ a.ops = b.ops := by
  cases a; cases b; simp; constructor
  · rintro ⟨h1, h2, h3, h4, h5, h6, h7, h8, h9, h10, h11, h12, h13⟩
    simp [*]
  · rintro ⟨⟨h1, h2, h3, h4, h5, h6, h7, h8, h9, h10, h11, h12⟩, h13⟩
    simp [*]

abbrev hd12 (a b : Thread) : Bool := cond (cond (cond (cond (cond (!decide (a.cache = b.cache)) true (!(cond (cond (cond (cond (decide (a.live = b.live)) (decide (a.r0 = b.r0) && (decide (a.r1 = b.r1) && (decide (a.r2 = b.r2) && (decide (a.r3 = b.r3) && true)))) false) (decide (a.epoch = b.epoch)) false) (decide (a.stage = b.stage)) false) (decide (a.root = b.root)) false))) true (!decide (a.pc = b.pc))) true (!decide (a.x = b.x))) true (!decide (a.y = b.y))) true (!decide ((a.ops.length : Int) = (b.ops.length : Int)))

theorem hd12_false {a b : Thread} (h : hd12 a b = false) : (a.cache = b.cache ∧ a.live = b.live ∧ a.r0 = b.r0 ∧ a.r1 = b.r1 ∧ a.r2 = b.r2 ∧ a.r3 = b.r3 ∧ a.epoch = b.epoch ∧ a.stage = b.stage ∧ a.root = b.root ∧ a.pc = b.pc ∧ a.x = b.x ∧ a.y = b.y) ∧ a.ops.length = b.ops.length := by
  unfold hd12 at h
  simp at h
  exact ⟨by simp [h], by have := h.2; omega⟩

theorem hd12_true {a b : Thread} (h : hd12 a b = true) : a ≠ b := by
  rintro rfl
  unfold hd12 at h
  simp at h

theorem Op.same {x y : Op} (h : x.kind = y.kind ∧ x.a = y.a ∧ x.b = y.b ∧ x.c = y.c) : x = y := by
  cases x; cases y; simp at h; simp [h]

end Go.Abs
