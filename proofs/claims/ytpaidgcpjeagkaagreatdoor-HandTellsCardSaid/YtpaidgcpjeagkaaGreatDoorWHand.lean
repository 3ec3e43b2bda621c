/- Walks: how threads answer the collector. -/
import Derived.Test.YtpaidgcpjeagkaaGreatDoorWHandK
set_option linter.all false
set_option linter.unusedVariables false
set_option linter.unusedSimpArgs false
namespace Go.Abs
open Go.Proofs Go.Proofs.YtpaidgcpjeagkaaGreatDoor
set_option maxRecDepth 8000

theorem wants_spec (p : Int) : Spec X 39 [] [.int p] (Ret [] (.int (wantsH p))) := by
  refine spec_go X_ok Tryz.f39 (by kernel_rfl) (by kernel_rfl) (by kernel_rfl) fun hb hH => ⟨rfl, ?_⟩
  unfold wantsH
  show ABr (decide (p = 0)) _ _
  refine ⟨fun h => ?_, fun h => ?_⟩
  · rw [if_pos (of_decide_eq_true h)]
    show ARet _ _ _
    exact ret_d rfl ⟨rfl, rfl⟩
  · rw [if_neg (of_decide_eq_false h)]
    show ABr (decide (p = 1)) _ _
    refine ⟨fun h => ?_, fun h => ?_⟩
    · rw [if_pos (of_decide_eq_true h)]
      show ARet _ _ _
      exact ret_d rfl ⟨rfl, rfl⟩
    · rw [if_neg (of_decide_eq_false h)]
      show ABr (decide (p = 2)) _ _
      refine ⟨fun h => ?_, fun h => ?_⟩
      · rw [if_pos (of_decide_eq_true h)]
        show ARet _ _ _
        exact ret_d rfl ⟨rfl, rfl⟩
      · rw [if_neg (of_decide_eq_false h)]
        show ARet _ _ _
        exact ret_d rfl ⟨rfl, rfl⟩

theorem answered_spec (c : Col) (t : Thread) : Spec X 26 [] [c.tv, t.tv] (Ret [] (.bo (answeredB c t))) := by
  refine spec_go X_ok Tryz.f26 (by kernel_rfl) (by kernel_rfl) (by kernel_rfl) fun hb hH => ⟨rfl, ?_⟩
  show ACall _ _ _ _ _ _
  refine call_ret (wants_spec c.phase) rfl ?_
  unfold wantsH answeredB
  by_cases h0 : c.phase = 0
  · rw [if_pos h0, if_pos h0]
    show ABr _ _ _
    refine ⟨fun _ => ?_, fun h => absurd h (by decide)⟩
    show ARet _ _ _
    exact ret_d rfl ⟨rfl, rfl⟩
  · rw [if_neg h0, if_neg h0]
    by_cases h1 : c.phase = 1
    · rw [if_pos h1, if_pos h1]
      show ABr _ _ _
      refine ⟨fun h => absurd h (by decide), fun _ => ?_⟩
      show ABr _ _ _
      refine ⟨fun _ => ?_, fun h => absurd h (by decide)⟩
      show ARet _ _ _
      exact ret_d rfl ⟨rfl, rfl⟩
    · rw [if_neg h1, if_neg h1]
      by_cases h2 : c.phase = 2
      · rw [if_pos h2, if_pos h2]
        show ABr _ _ _
        refine ⟨fun h => absurd h (by decide), fun _ => ?_⟩
        show ABr _ _ _
        refine ⟨fun h => absurd h (by decide), fun _ => ?_⟩
        show ABr _ _ _
        refine ⟨fun _ => ?_, fun h => absurd h (by decide)⟩
        show ARet _ _ _
        refine ret_bo (x := bif decide (t.epoch = c.epoch) then decide (t.stage ≥ 2) else false) ?_ ⟨rfl, rfl⟩
        rw [decide_and']
        cases decide (t.epoch = c.epoch) <;> rfl
      · rw [if_neg h2, if_neg h2]
        show ABr _ _ _
        refine ⟨fun h => absurd h (by decide), fun _ => ?_⟩
        show ABr _ _ _
        refine ⟨fun h => absurd h (by decide), fun _ => ?_⟩
        show ABr _ _ _
        refine ⟨fun h => absurd h (by decide), fun _ => ?_⟩
        show ARet _ _ _
        refine ret_bo (x := bif decide (t.epoch = c.epoch) then decide (t.stage = 3) else false) ?_ ⟨rfl, rfl⟩
        rw [decide_and']
        cases decide (t.epoch = c.epoch) <;> rfl

theorem Asked_spec (c : Col) (t : Thread) : Spec X 8 [] [c.tv, t.tv] (Ret [] (.bo (askedB c t))) := by
  refine spec_go X_ok Tryz.f8 (by kernel_rfl) (by kernel_rfl) (by kernel_rfl) fun hb hH => ⟨rfl, ?_⟩
  unfold askedB
  show AIf (t.live = true ∧ True) _ _
  by_cases hl : t.live = true
  · refine ⟨fun _ => ?_, fun h => absurd ⟨hl, trivial⟩ h⟩
    show ACall _ _ _ _ _ _
    refine call_ret (May_spec t) rfl ?_
    conv => whnf
    trace_state
    skip
    show AIf ((bif decide t.mayT then t.pc == 0 else false) = true ∧ True) _ _
    by_cases hb : (bif decide t.mayT then t.pc == 0 else false) = true
    · refine ⟨fun _ => ?_, fun h => absurd ⟨hb, trivial⟩ h⟩
      show ACall _ _ _ _ _ _
      refine call_ret (answered_spec c t) rfl ?_
      show ARet _ _ _
      refine ret_bo (x := !answeredB c t) ?_ ⟨rfl, rfl⟩
      cases h1 : decide t.mayT with
      | false => rw [h1] at hb; cases hb
      | true =>
        rw [h1] at hb
        rw [decide_eq_true (show t.pc = 0 by simpa using hb), hl]
        rfl
    · refine ⟨fun h => absurd h.1 hb, fun _ => ?_⟩
      show AOb _ _
      refine ⟨by simpa using hb, ?_⟩
      show ARet _ _ _
      refine ret_bo (x := false) ?_ ⟨rfl, rfl⟩
      cases h1 : decide t.mayT with
      | false => rw [Bool.false_and, Bool.and_false]
      | true =>
        rw [h1] at hb
        rw [decide_eq_false (show ¬t.pc = 0 by simpa using hb), Bool.false_and, Bool.and_false, Bool.and_false]
  · refine ⟨fun h => absurd h.1 hl, fun _ => ?_⟩
    show AOb _ _
    refine ⟨by simpa using hl, ?_⟩
    conv => whnf
    trace_state
    skip
    refine ⟨fun h => absurd h.1 Bool.false_ne_true, fun _ => ?_⟩
    show AOb _ _
    refine ⟨by rfl, ?_⟩
    show ARet _ _ _
    refine ret_bo (x := false) ?_ ⟨rfl, rfl⟩
    rw [show t.live = false by simpa using hl, Bool.false_and]

set_option maxHeartbeats 4000000 in
set_option maxRecDepth 60000 in
theorem hown15_spec (g : Hp) (c : Col) (t : Thread) (hs : g.small) (hw : c.work.length ≤ most) (ht : t.ok) : Spec X 29 [] [g.tv, c.tv, t.tv] (Ret [] (.tup [g.tv, c.tv, t.tv])) := by
  refine spec_go X_ok Tryz.f29 (by kernel_rfl) (by kernel_rfl) (by kernel_rfl) fun hb hH => ⟨rfl, ?_⟩
  obtain ⟨h1, h2, h3, h4, h5, h6⟩ := hs
  obtain ⟨t1, t2, t3, t4⟩ := ht
  show ADCall _ _ _ _ _ _
  refine .mk _ _ (CloneInts_spec g.w h1) rfl ?_
  show ADCall _ _ _ _ _ _
  refine .mk _ _ (ClonePages_spec g.pages h2) rfl ?_
  show ADCall _ _ _ _ _ _
  refine .mk _ _ (CloneBools_spec g.cards h3) rfl ?_
  show ADCall _ _ _ _ _ _
  refine .mk _ _ (CloneInts_spec c.work hw) rfl ?_
  show ADCall _ _ _ _ _ _
  refine .mk _ _ (CloneOps_spec t.ops t1) rfl ?_
  show ∃ n, _
  refine ⟨4, ?_⟩
  show ALoop _ _ _ _
  refine .next ?_
  show ABr _ _ _
  refine ⟨fun _ => ?_, fun h => absurd h (by decide)⟩
  show AOb _ _
  refine ⟨by decide, ?_⟩
  show ADCall _ _ _ _ _ _
  refine .mk _ _ (CloneInts_spec g.free.l0 h4) rfl ?_
  show AOb _ _
  refine ⟨by decide, ?_⟩
  show ADCall _ _ _ _ _ _
  refine .mk _ _ (CloneInts_spec t.cache.l0 t2) rfl ?_
  show AOb _ _
  refine ⟨by decide, ?_⟩
  show AOb _ _
  refine ⟨by decide, ?_⟩
  show ALoop _ _ _ _
  refine .next ?_
  show ABr _ _ _
  refine ⟨fun _ => ?_, fun h => absurd h (by decide)⟩
  show AOb _ _
  refine ⟨by decide, ?_⟩
  show ADCall _ _ _ _ _ _
  refine .mk _ _ (CloneInts_spec g.free.l1 h5) rfl ?_
  show AOb _ _
  refine ⟨by decide, ?_⟩
  show ADCall _ _ _ _ _ _
  refine .mk _ _ (CloneInts_spec t.cache.l1 t3) rfl ?_
  show AOb _ _
  refine ⟨by decide, ?_⟩
  show AOb _ _
  refine ⟨by decide, ?_⟩
  show ALoop _ _ _ _
  refine .next ?_
  show ABr _ _ _
  refine ⟨fun _ => ?_, fun h => absurd h (by decide)⟩
  show AOb _ _
  refine ⟨by decide, ?_⟩
  show ADCall _ _ _ _ _ _
  refine .mk _ _ (CloneInts_spec g.free.l2 h6) rfl ?_
  show AOb _ _
  refine ⟨by decide, ?_⟩
  show ADCall _ _ _ _ _ _
  refine .mk _ _ (CloneInts_spec t.cache.l2 t4) rfl ?_
  show AOb _ _
  refine ⟨by decide, ?_⟩
  show AOb _ _
  refine ⟨by decide, ?_⟩
  show ALoop _ _ _ _
  refine .next ?_
  show ABr _ _ _
  refine ⟨fun h => absurd h (by decide), fun _ => ?_⟩
  show ARet _ _ _
  exact ret_d rfl ⟨rfl, rfl⟩
end Go.Abs
