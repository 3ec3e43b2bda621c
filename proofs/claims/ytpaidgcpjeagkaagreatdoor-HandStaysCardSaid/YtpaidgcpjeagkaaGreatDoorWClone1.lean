/- Walks: copies of slices; two lists of numbers; the document's lists. -/
import Derived.Test.YtpaidgcpjeagkaaGreatDoorAbsBase1
set_option linter.all false
set_option linter.unusedVariables false
set_option linter.unusedSimpArgs false
namespace Go.Abs
open Go.Proofs Go.Proofs.YtpaidgcpjeagkaaGreatDoor

theorem CloneInts_spec (l : List Int) (h : l.length ≤ most) : Spec X 46 [] [.c (.d (.sl .int l))] (Ret [] (.c (.d (.sl .int l)))) := by
  refine spec_go X_ok Tryz.f46 (by kernel_rfl) (by kernel_rfl) (by kernel_rfl) fun hb _ => ⟨rfl, ?_⟩
  intro b (hnil : b = true → l = [])
  show ABr _ _ _
  refine ⟨fun hb => ?_, fun hb => ?_⟩
  · show ARet _ _ _
    exact ret1 (.nilsl (hnil hb)) ⟨rfl, rfl⟩
  · show AOb (0 + l.length ≤ most) _
    refine ⟨by omega, ?_⟩
    show ARet _ _ _
    exact ret1 (.frz rfl rfl) ⟨rfl, rfl⟩

theorem ClonePages_spec (l : List Page) (h : l.length ≤ most) : Spec X 47 [] [.c (.d (.sl .page l))] (Ret [] (.c (.d (.sl .page l)))) := by
  refine spec_go X_ok Tryz.f47 (by kernel_rfl) (by kernel_rfl) (by kernel_rfl) fun hb _ => ⟨rfl, ?_⟩
  intro b (hnil : b = true → l = [])
  show ABr _ _ _
  refine ⟨fun hb => ?_, fun hb => ?_⟩
  · show ARet _ _ _
    exact ret1 (.nilsl (hnil hb)) ⟨rfl, rfl⟩
  · show AOb (0 + l.length ≤ most) _
    refine ⟨by omega, ?_⟩
    show ARet _ _ _
    exact ret1 (.frz rfl rfl) ⟨rfl, rfl⟩

theorem CloneBools_spec (l : List Bool) (h : l.length ≤ most) : Spec X 48 [] [.c (.d (.sl .bool l))] (Ret [] (.c (.d (.sl .bool l)))) := by
  refine spec_go X_ok Tryz.f48 (by kernel_rfl) (by kernel_rfl) (by kernel_rfl) fun hb _ => ⟨rfl, ?_⟩
  intro b (hnil : b = true → l = [])
  show ABr _ _ _
  refine ⟨fun hb => ?_, fun hb => ?_⟩
  · show ARet _ _ _
    exact ret1 (.nilsl (hnil hb)) ⟨rfl, rfl⟩
  · show AOb (0 + l.length ≤ most) _
    refine ⟨by omega, ?_⟩
    show ARet _ _ _
    exact ret1 (.frz rfl rfl) ⟨rfl, rfl⟩

theorem CloneOps_spec (l : List Op) (h : l.length ≤ most) : Spec X 49 [] [.c (.d (.sl .op l))] (Ret [] (.c (.d (.sl .op l)))) := by
  refine spec_go X_ok Tryz.f49 (by kernel_rfl) (by kernel_rfl) (by kernel_rfl) fun hb _ => ⟨rfl, ?_⟩
  intro b (hnil : b = true → l = [])
  show ABr _ _ _
  refine ⟨fun hb => ?_, fun hb => ?_⟩
  · show ARet _ _ _
    exact ret1 (.nilsl (hnil hb)) ⟨rfl, rfl⟩
  · show AOb (0 + l.length ≤ most) _
    refine ⟨by omega, ?_⟩
    show ARet _ _ _
    exact ret1 (.frz rfl rfl) ⟨rfl, rfl⟩

end Go.Abs

namespace Go.Abs
open Go.Proofs Go.Proofs.YtpaidgcpjeagkaaGreatDoor

theorem Ints_spec (a b : List Int) : Spec X 31 [] [.c (.d (.sl .int a)), .c (.d (.sl .int b))] (Ret [] (.bo (decide (a = b)))) := by
  refine spec_go X_ok Tryz.f31 (by kernel_rfl) (by kernel_rfl) (by kernel_rfl) fun hb _ => ⟨rfl, ?_⟩
  have hla : a.length ≤ maxN := (hb (.c (.d (.sl .int a))) (by simp)).1
  unfold maxN at hla
  show ABr _ _ _
  refine ⟨fun (h : ((a.length : Int) != (b.length : Int)) = true) => ?_, fun (h : ((a.length : Int) != (b.length : Int)) = false) => ?_⟩
  · show ARet _ _ _
    refine ret_bo ?_ ⟨rfl, rfl⟩
    have : a ≠ b := fun e => by subst e; simp at h
    simp [this]
  · have hlen : a.length = b.length := by simp [bne] at h; omega
    refine ⟨0, ALoop.inv (ι := {i : Nat // i ≤ a.length ∧ a.take i = b.take i}) (fun i => ⟨[(0, .c (.d (.sl .int a))), (1, .c (.d (.sl .int b))), (5, .int i.1)], [], 32⟩) (fun i => a.length - i.1) ⟨0, by simp⟩ ?_ ?_⟩
    · exact ⟨[], .cons _ _ _ .same (.cons _ _ _ .same (.cons _ _ _ .same .nil)), .nil, rfl⟩
    · rintro ⟨i, hi, he⟩
      show ABr _ _ _
      refine ⟨fun (h : decide ((i : Int) < (a.length : Int)) = true) => ?_, fun (h : decide ((i : Int) < (a.length : Int)) = false) => ?_⟩
      · have hlt : i < a.length := by simpa using h
        show AOb ((0 : Int) ≤ (i : Int) ∧ (i : Int) < (a.length : Int)) _
        refine ⟨by omega, ?_⟩
        show AOb ((0 : Int) ≤ (i : Int) ∧ (i : Int) < (b.length : Int)) _
        refine ⟨by omega, ?_⟩
        show ABr (a.getD i 0 != b.getD i 0) _ _
        have h2 : i < b.length := by omega
        refine ⟨fun h => ?_, fun h => ?_⟩
        · show ARet _ _ _
          refine ret_bo ?_ ⟨rfl, rfl⟩
          have : a ≠ b := fun e => by subst e; simp at h
          simp [this]
        · show ARound _ _ _ _
          have hab : a.take (i + 1) = b.take (i + 1) := by
            have hx : a[i] = b[i] := by simpa [hlt, h2] using h
            rw [List.take_add_one, List.take_add_one, he, List.getElem?_eq_getElem hlt, List.getElem?_eq_getElem h2, hx]
          exact ⟨⟨i + 1, hlt, hab⟩, Nat.sub_lt_sub_left hlt (Nat.lt_succ_self i), [], .cons _ _ _ .same (.cons _ _ _ .same (.cons _ _ _ (.int_eq (by rw [wrap64] <;> simp <;> omega)) .nil)), .nil, rfl⟩
      · show ARet _ _ _
        refine ret_bo ?_ ⟨rfl, rfl⟩
        have hge : i = a.length := by simp at h; omega
        have : a = b := by
          have := he
          rw [hge, List.take_length, hlen, List.take_length] at this
          exact this
        simp [this]

end Go.Abs

namespace Go.Abs
open Go.Proofs Go.Proofs.YtpaidgcpjeagkaaGreatDoor
set_option maxRecDepth 8000

def Lists.ok (l : Lists) : Prop := l.l0.length ≤ most ∧ l.l1.length ≤ most ∧ l.l2.length ≤ most

theorem Light_spec (l : Lists) : Spec X 45 [] [l.tv] (Ret [] (.bo (decide (l.l0.length ≤ 70 ∧ l.l1.length ≤ 70 ∧ l.l2.length ≤ 70)))) := by
  refine spec_go X_ok Tryz.f45 (by kernel_rfl) (by kernel_rfl) (by kernel_rfl) fun _ _ => ⟨rfl, ?_⟩
  show AOb _ _
  refine ⟨by decide, ?_⟩
  show AOb _ _
  refine ⟨fun _ => by decide, ?_⟩
  show AOb _ _
  refine ⟨fun _ => by decide, ?_⟩
  show ARet _ _ _
  refine ret_bo (x := bif (bif decide ((l.l0.length : Int) ≤ 70) then decide ((l.l1.length : Int) ≤ 70) else false) then decide ((l.l2.length : Int) ≤ 70) else false) ?_ ⟨rfl, rfl⟩
  have e (n : Nat) : decide ((n : Int) ≤ 70) = decide (n ≤ 70) := by rw [decide_eq_decide]; omega
  rw [e, e, e]
  by_cases h0 : l.l0.length ≤ 70 <;> by_cases h1 : l.l1.length ≤ 70 <;> simp [h0, h1]

theorem rOwn_spec (l : Lists) (h : l.ok) : Spec X 34 [] [l.tv] (Ret [] l.tv) := by
  refine spec_go X_ok Tryz.f34 (by kernel_rfl) (by kernel_rfl) (by kernel_rfl) fun _ _ => ⟨rfl, ?_⟩
  show ∃ n, _
  refine ⟨4, .next ?_⟩
  show ABr _ _ _
  refine ⟨fun _ => ?_, fun hb => absurd hb (by decide)⟩
  show AOb _ _
  refine ⟨by decide, ?_⟩
  show AOb (l.l0.length ≤ most) _
  refine ⟨h.1, ?_⟩
  show AOb _ _
  refine ⟨by decide, ?_⟩
  show ALoop _ _ _ _
  refine .next ?_
  show ABr _ _ _
  refine ⟨fun _ => ?_, fun hb => absurd hb (by decide)⟩
  show AOb _ _
  refine ⟨by decide, ?_⟩
  show AOb (l.l1.length ≤ most) _
  refine ⟨h.2.1, ?_⟩
  show AOb _ _
  refine ⟨by decide, ?_⟩
  show ALoop _ _ _ _
  refine .next ?_
  show ABr _ _ _
  refine ⟨fun _ => ?_, fun hb => absurd hb (by decide)⟩
  show AOb _ _
  refine ⟨by decide, ?_⟩
  show AOb (l.l2.length ≤ most) _
  refine ⟨h.2.2, ?_⟩
  show AOb _ _
  refine ⟨by decide, ?_⟩
  show ALoop _ _ _ _
  refine .next ?_
  show ABr _ _ _
  refine ⟨fun hb => absurd hb (by decide), fun _ => ?_⟩
  show ARet _ _ _
  exact ret1 (.agg _ _ (.cons _ _ _ _ (.frz _ _ rfl) (.cons _ _ _ _ (.frz _ _ rfl) (.cons _ _ _ _ (.frz _ _ rfl) .nil)))) ⟨rfl, rfl⟩

theorem Lists.ne {a b : Lists} : a = b ↔ a.l0 = b.l0 ∧ a.l1 = b.l1 ∧ a.l2 = b.l2 := by cases a; cases b; simp

theorem rSame_spec (a b : Lists) : Spec X 33 [] [a.tv, b.tv] (Ret [] (.bo (decide (a = b)))) := by
  refine spec_go X_ok Tryz.f33 (by kernel_rfl) (by kernel_rfl) (by kernel_rfl) fun _ _ => ⟨rfl, ?_⟩
  show ∃ n, _
  refine ⟨4, .next ?_⟩
  show ABr _ _ _
  refine ⟨fun _ => ?_, fun hb => absurd hb (by decide)⟩
  show AOb _ _
  refine ⟨by decide, ?_⟩
  show AOb _ _
  refine ⟨by decide, ?_⟩
  show ADCall _ _ _ _ _ _
  refine .mk [] _ (Ints_spec a.l0 b.l0) rfl ?_
  show ABr (!decide (a.l0 = b.l0)) _ _
  refine ⟨fun h => ?_, fun hl0 => ?_⟩
  · show ARet _ _ _
    refine ret_bo ?_ ⟨rfl, rfl⟩
    rw [eq_comm, decide_eq_false_iff_not, Lists.ne]
    intro e
    simp [e] at h
  show ALoop _ _ _ _
  refine .next ?_
  show ABr _ _ _
  refine ⟨fun _ => ?_, fun hb => absurd hb (by decide)⟩
  show AOb _ _
  refine ⟨by decide, ?_⟩
  show AOb _ _
  refine ⟨by decide, ?_⟩
  show ADCall _ _ _ _ _ _
  refine .mk [] _ (Ints_spec a.l1 b.l1) rfl ?_
  show ABr (!decide (a.l1 = b.l1)) _ _
  refine ⟨fun h => ?_, fun hl1 => ?_⟩
  · show ARet _ _ _
    refine ret_bo ?_ ⟨rfl, rfl⟩
    rw [eq_comm, decide_eq_false_iff_not, Lists.ne]
    intro e
    simp [e] at h
  show ALoop _ _ _ _
  refine .next ?_
  show ABr _ _ _
  refine ⟨fun _ => ?_, fun hb => absurd hb (by decide)⟩
  show AOb _ _
  refine ⟨by decide, ?_⟩
  show AOb _ _
  refine ⟨by decide, ?_⟩
  show ADCall _ _ _ _ _ _
  refine .mk [] _ (Ints_spec a.l2 b.l2) rfl ?_
  show ABr (!decide (a.l2 = b.l2)) _ _
  refine ⟨fun h => ?_, fun hl2 => ?_⟩
  · show ARet _ _ _
    refine ret_bo ?_ ⟨rfl, rfl⟩
    rw [eq_comm, decide_eq_false_iff_not, Lists.ne]
    intro e
    simp [e] at h
  show ALoop _ _ _ _
  refine .next ?_
  show ABr _ _ _
  refine ⟨fun hb => absurd hb (by decide), fun _ => ?_⟩
  show ARet _ _ _
  refine ret_bo ?_ ⟨rfl, rfl⟩
  rw [eq_comm, decide_eq_true_iff, Lists.ne]
  simp at hl0 hl1 hl2
  exact ⟨hl0, hl1, hl2⟩

end Go.Abs
