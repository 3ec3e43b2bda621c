/- Walks: the document's lists. -/
import Derived.Test.YtlknhkocpjjkdaaWInts
import Derived.Test.YtlknhkocpjjkdaaAbsData
import Derived.Test.YtlknhkocpjjkdaaAbsBase
set_option linter.all false
set_option linter.unusedVariables false
set_option linter.unusedSimpArgs false
namespace Go.Abs
open Go.Proofs Go.Proofs.Ytlknhkocpjjkdaa
set_option maxRecDepth 8000

def Lists.ok (l : Lists) : Prop := l.l0.length ≤ most ∧ l.l1.length ≤ most ∧ l.l2.length ≤ most

theorem Light_spec (l : Lists) : Spec X 40 [] [l.tv] (Ret [] (.bo (decide (l.l0.length ≤ 70 ∧ l.l1.length ≤ 70 ∧ l.l2.length ≤ 70)))) := by
  refine spec_go X_ok Try.f40 (by kernel_rfl) (by kernel_rfl) (by kernel_rfl) fun _ _ => ⟨rfl, ?_⟩
  show AOb _ _
  refine ⟨by decide, ?_⟩
  show AOb _ _
  refine ⟨fun _ => by decide, ?_⟩
  show AOb _ _
  refine ⟨fun _ => by decide, ?_⟩
  show ARet _ _ _
  refine ret_bo (x := bif (bif decide ((l.l0.length : Int) ≤ 70) then decide ((l.l1.length : Int) ≤ 70) else false) then decide ((l.l2.length : Int) ≤ 70) else false) ?_ ⟨rfl, rfl⟩
  have e (n : Nat) : decide ((n : Int) ≤ 70) = decide (n ≤ 70) := by rw [decide_eq_decide]; omega
  rw [e, e, e]
  by_cases h0 : l.l0.length ≤ 70 <;> by_cases h1 : l.l1.length ≤ 70 <;> simp [h0, h1]

theorem rOwn_spec (l : Lists) (h : l.ok) : Spec X 41 [] [l.tv] (Ret [] l.tv) := by
  refine spec_go X_ok Try.f41 (by kernel_rfl) (by kernel_rfl) (by kernel_rfl) fun _ _ => ⟨rfl, ?_⟩
  show ∃ n, _
  refine ⟨4, .next ?_⟩
  show ABr _ _ _
  refine ⟨fun _ => ?_, fun hb => absurd hb (by decide)⟩
  show AOb _ _
  refine ⟨by decide, ?_⟩
  show AOb (l.l0.length ≤ most) _
  refine ⟨h.1, ?_⟩
  show AOb _ _
  refine ⟨by decide, ?_⟩
  show ALoop _ _ _ _
  refine .next ?_
  show ABr _ _ _
  refine ⟨fun _ => ?_, fun hb => absurd hb (by decide)⟩
  show AOb _ _
  refine ⟨by decide, ?_⟩
  show AOb (l.l1.length ≤ most) _
  refine ⟨h.2.1, ?_⟩
  show AOb _ _
  refine ⟨by decide, ?_⟩
  show ALoop _ _ _ _
  refine .next ?_
  show ABr _ _ _
  refine ⟨fun _ => ?_, fun hb => absurd hb (by decide)⟩
  show AOb _ _
  refine ⟨by decide, ?_⟩
  show AOb (l.l2.length ≤ most) _
  refine ⟨h.2.2, ?_⟩
  show AOb _ _
  refine ⟨by decide, ?_⟩
  show ALoop _ _ _ _
  refine .next ?_
  show ABr _ _ _
  refine ⟨fun hb => absurd hb (by decide), fun _ => ?_⟩
  show ARet _ _ _
  exact ret1 (.agg _ _ (.cons _ _ _ _ (.frz _ _ rfl) (.cons _ _ _ _ (.frz _ _ rfl) (.cons _ _ _ _ (.frz _ _ rfl) .nil)))) ⟨rfl, rfl⟩

theorem Lists.ne {a b : Lists} : a = b ↔ a.l0 = b.l0 ∧ a.l1 = b.l1 ∧ a.l2 = b.l2 := by cases a; cases b; simp

theorem rSame_spec (a b : Lists) : Spec X 30 [] [a.tv, b.tv] (Ret [] (.bo (decide (a = b)))) := by
  refine spec_go X_ok Try.f30 (by kernel_rfl) (by kernel_rfl) (by kernel_rfl) fun _ _ => ⟨rfl, ?_⟩
  show ∃ n, _
  refine ⟨4, .next ?_⟩
  show ABr _ _ _
  refine ⟨fun _ => ?_, fun hb => absurd hb (by decide)⟩
  show AOb _ _
  refine ⟨by decide, ?_⟩
  show AOb _ _
  refine ⟨by decide, ?_⟩
  show ADCall _ _ _ _ _ _
  refine .mk [] _ (Ints_spec a.l0 b.l0) rfl ?_
  show ABr (!decide (a.l0 = b.l0)) _ _
  refine ⟨fun h => ?_, fun hl0 => ?_⟩
  · show ARet _ _ _
    refine ret_bo ?_ ⟨rfl, rfl⟩
    rw [eq_comm, decide_eq_false_iff_not, Lists.ne]
    intro e
    simp [e] at h
  show ALoop _ _ _ _
  refine .next ?_
  show ABr _ _ _
  refine ⟨fun _ => ?_, fun hb => absurd hb (by decide)⟩
  show AOb _ _
  refine ⟨by decide, ?_⟩
  show AOb _ _
  refine ⟨by decide, ?_⟩
  show ADCall _ _ _ _ _ _
  refine .mk [] _ (Ints_spec a.l1 b.l1) rfl ?_
  show ABr (!decide (a.l1 = b.l1)) _ _
  refine ⟨fun h => ?_, fun hl1 => ?_⟩
  · show ARet _ _ _
    refine ret_bo ?_ ⟨rfl, rfl⟩
    rw [eq_comm, decide_eq_false_iff_not, Lists.ne]
    intro e
    simp [e] at h
  show ALoop _ _ _ _
  refine .next ?_
  show ABr _ _ _
  refine ⟨fun _ => ?_, fun hb => absurd hb (by decide)⟩
  show AOb _ _
  refine ⟨by decide, ?_⟩
  show AOb _ _
  refine ⟨by decide, ?_⟩
  show ADCall _ _ _ _ _ _
  refine .mk [] _ (Ints_spec a.l2 b.l2) rfl ?_
  show ABr (!decide (a.l2 = b.l2)) _ _
  refine ⟨fun h => ?_, fun hl2 => ?_⟩
  · show ARet _ _ _
    refine ret_bo ?_ ⟨rfl, rfl⟩
    rw [eq_comm, decide_eq_false_iff_not, Lists.ne]
    intro e
    simp [e] at h
  show ALoop _ _ _ _
  refine .next ?_
  show ABr _ _ _
  refine ⟨fun hb => absurd hb (by decide), fun _ => ?_⟩
  show ARet _ _ _
  refine ret_bo ?_ ⟨rfl, rfl⟩
  rw [eq_comm, decide_eq_true_iff, Lists.ne]
  simp at hl0 hl1 hl2
  exact ⟨hl0, hl1, hl2⟩

end Go.Abs
