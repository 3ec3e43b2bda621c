/- Walks: copies of slices; two lists of numbers; the document's lists. -/
import Derived.Test.YtpaidgcpjeagkaaDoorAbsBase1
set_option linter.all false
set_option linter.unusedVariables false
set_option linter.unusedSimpArgs false
namespace Go.Abs
open Go.Proofs Go.Proofs.YtpaidgcpjeagkaaDoor

theorem CloneInts_spec (l : List Int) (h : l.length ≤ most) : Spec X 33 [] [.c (.d (.sl .int l))] (Ret [] (.c (.d (.sl .int l)))) := by
  refine spec_go X_ok Tryd.f33 (by kernel_rfl) (by kernel_rfl) (by kernel_rfl) fun hb _ => ⟨rfl, ?_⟩
  intro b (hnil : b = true → l = [])
  show ABr _ _ _
  refine ⟨fun hb => ?_, fun hb => ?_⟩
  · show ARet _ _ _
    exact ret1 (.nilsl (hnil hb)) ⟨rfl, rfl⟩
  · show AOb (0 + l.length ≤ most) _
    refine ⟨by omega, ?_⟩
    show ARet _ _ _
    exact ret1 (.frz rfl rfl) ⟨rfl, rfl⟩

theorem ClonePages_spec (l : List Page) (h : l.length ≤ most) : Spec X 34 [] [.c (.d (.sl .page l))] (Ret [] (.c (.d (.sl .page l)))) := by
  refine spec_go X_ok Tryd.f34 (by kernel_rfl) (by kernel_rfl) (by kernel_rfl) fun hb _ => ⟨rfl, ?_⟩
  intro b (hnil : b = true → l = [])
  show ABr _ _ _
  refine ⟨fun hb => ?_, fun hb => ?_⟩
  · show ARet _ _ _
    exact ret1 (.nilsl (hnil hb)) ⟨rfl, rfl⟩
  · show AOb (0 + l.length ≤ most) _
    refine ⟨by omega, ?_⟩
    show ARet _ _ _
    exact ret1 (.frz rfl rfl) ⟨rfl, rfl⟩

theorem CloneBools_spec (l : List Bool) (h : l.length ≤ most) : Spec X 35 [] [.c (.d (.sl .bool l))] (Ret [] (.c (.d (.sl .bool l)))) := by
  refine spec_go X_ok Tryd.f35 (by kernel_rfl) (by kernel_rfl) (by kernel_rfl) fun hb _ => ⟨rfl, ?_⟩
  intro b (hnil : b = true → l = [])
  show ABr _ _ _
  refine ⟨fun hb => ?_, fun hb => ?_⟩
  · show ARet _ _ _
    exact ret1 (.nilsl (hnil hb)) ⟨rfl, rfl⟩
  · show AOb (0 + l.length ≤ most) _
    refine ⟨by omega, ?_⟩
    show ARet _ _ _
    exact ret1 (.frz rfl rfl) ⟨rfl, rfl⟩

theorem CloneOps_spec (l : List Op) (h : l.length ≤ most) : Spec X 36 [] [.c (.d (.sl .op l))] (Ret [] (.c (.d (.sl .op l)))) := by
  refine spec_go X_ok Tryd.f36 (by kernel_rfl) (by kernel_rfl) (by kernel_rfl) fun hb _ => ⟨rfl, ?_⟩
  intro b (hnil : b = true → l = [])
  show ABr _ _ _
  refine ⟨fun hb => ?_, fun hb => ?_⟩
  · show ARet _ _ _
    exact ret1 (.nilsl (hnil hb)) ⟨rfl, rfl⟩
  · show AOb (0 + l.length ≤ most) _
    refine ⟨by omega, ?_⟩
    show ARet _ _ _
    exact ret1 (.frz rfl rfl) ⟨rfl, rfl⟩

end Go.Abs

namespace Go.Abs
open Go.Proofs Go.Proofs.YtpaidgcpjeagkaaDoor

end Go.Abs

namespace Go.Abs
open Go.Proofs Go.Proofs.YtpaidgcpjeagkaaDoor
set_option maxRecDepth 8000

def Lists.ok (l : Lists) : Prop := l.l0.length ≤ most ∧ l.l1.length ≤ most ∧ l.l2.length ≤ most

theorem Light_spec (l : Lists) : Spec X 27 [] [l.tv] (Ret [] (.bo (decide (l.l0.length ≤ 70 ∧ l.l1.length ≤ 70 ∧ l.l2.length ≤ 70)))) := by
  refine spec_go X_ok Tryd.f27 (by kernel_rfl) (by kernel_rfl) (by kernel_rfl) fun _ _ => ⟨rfl, ?_⟩
  show AOb _ _
  refine ⟨by decide, ?_⟩
  show AOb _ _
  refine ⟨fun _ => by decide, ?_⟩
  show AOb _ _
  refine ⟨fun _ => by decide, ?_⟩
  show ARet _ _ _
  refine ret_bo (x := bif (bif decide ((l.l0.length : Int) ≤ 70) then decide ((l.l1.length : Int) ≤ 70) else false) then decide ((l.l2.length : Int) ≤ 70) else false) ?_ ⟨rfl, rfl⟩
  have e (n : Nat) : decide ((n : Int) ≤ 70) = decide (n ≤ 70) := by rw [decide_eq_decide]; omega
  rw [e, e, e]
  by_cases h0 : l.l0.length ≤ 70 <;> by_cases h1 : l.l1.length ≤ 70 <;> simp [h0, h1]

theorem Lists.ne {a b : Lists} : a = b ↔ a.l0 = b.l0 ∧ a.l1 = b.l1 ∧ a.l2 = b.l2 := by cases a; cases b; simp

end Go.Abs
