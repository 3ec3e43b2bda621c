/- Walks: an answer is one stage, or one register. -/
import Derived.Test.YtpaidgcpjeagkaaDoorWHand4
set_option linter.all false
set_option linter.unusedVariables false
set_option linter.unusedSimpArgs false
namespace Go.Abs
open Go.Proofs Go.Proofs.YtpaidgcpjeagkaaDoor
set_option maxRecDepth 8000

theorem few_ok15 {t : Thread} (h : t.few = true) : t.ok := by
  simp [Thread.few] at h
  unfold Thread.ok most
  omega
theorem few15_of {g : Hp} {c : Col} {t : Thread} (h : few15 g c t = true) : fewH g = true ∧ g.light ∧ g.small ∧ c.work.length ≤ 100 ∧ t.ok := by
  unfold few15 at h
  rw [Bool.and_eq_true, Bool.and_eq_true, decide_eq_true_eq] at h
  exact ⟨h.1, few_light h.1, few_small h.1, h.2.1, few_ok15 h.2.2⟩
theorem work_most {n : Nat} (h : n ≤ 100) : n < most := by unfold most; omega

set_option maxHeartbeats 2000000 in
theorem HandOnce_spec (g : Hp) (c : Col) (t : Thread) : Spec X 4 [] [g.tv, c.tv, t.tv] (Ret [] (.bo true)) := by
  refine spec_go X_ok Tryd.f4 (by kernel_rfl) (by kernel_rfl) (by kernel_rfl) fun hb hH => ⟨rfl, ?_⟩
  show ACall _ _ _ _ _ _
  refine call_ret (awake15_spec) rfl ?_
  show ACall _ _ _ _ _ _
  refine call_ret (few15_spec g c t) rfl ?_
  cases hf : few15 g c t with
  | false =>
    show AIf _ _ _
    refine ⟨fun h => absurd h.1 (by decide), fun _ => ?_⟩
    show AOb _ _
    refine ⟨by decide, ?_⟩
    show ABr _ _ _
    refine ⟨fun _ => ?_, fun h => absurd h (by decide)⟩
    show ARet _ _ _
    exact ret_d rfl ⟨rfl, rfl⟩
  | true =>
    obtain ⟨f1, f2, f3, f4, f5⟩ := few15_of hf
    show AIf _ _ _
    refine ⟨fun _ => ?_, fun h => absurd ⟨rfl, trivial⟩ h⟩
    show ACall _ _ _ _ _ _
    refine call_ret (Asked_spec c t) rfl ?_
    show ABr (!askedB c t) _ _
    refine ⟨fun h => ?_, fun h => ?_⟩
    · show ARet _ _ _
      exact ret_d rfl ⟨rfl, rfl⟩
    · have ha : askedB c t = true := by simpa using h
      show ACall _ _ _ _ _ _
      refine call_ret (Answer_spec g c t f2 f3 (work_most f4) f5) rfl ?_
      obtain ⟨u, hu⟩ : ∃ u, u = ansT c t := ⟨_, rfl⟩
      obtain ⟨d, hd⟩ : ∃ d, d = ansC g c t := ⟨_, rfl⟩
      have hs := ansT_same c t
      rw [← hu] at hs
      rw [← hu, ← hd]
      obtain ⟨hlv, hm, hpc, _⟩ := asked_of ha
      have hlen : d.work.length ≤ c.work.length + 1 := by
        rw [hd]
        unfold ansC
        split
        · exact shadeC_len _ _ _
        · exact Nat.le_succ _
      have hw : IntKind.i64.wrap ((c.work.length : Int) + 1) = ((c.work.length + 1 : Nat) : Int) := wrapP (i := c.work.length) (by unfold maxN; omega)
      show ABr _ _ _
      refine ⟨fun h => absurd h ?_, fun _ => ?_⟩
      · rw [hs.r0, hs.r1, hs.r2, hs.r3, hs.live, hs.pc, hs.ops, hlv, hpc]
        simp
        first | (rw [hw]; omega) | (show (d.work.length : Int) ≤ IntKind.i64.wrap ((c.work.length : Int) + 1); rw [hw]; omega)
      · rcases ans_cases ha with ⟨h1, _, e⟩ | ⟨h1, h2, h3, _, e⟩ | ⟨h1, _, _, h2, h3, _, e⟩
        · have e1 : u.epoch = c.epoch := by rw [hu, e]
          have e2 : u.stage = 1 := by rw [hu, e]
          have e3 : u.root = 0 := by rw [hu, e]
          show ABr (!decide (t.epoch = c.epoch)) _ _
          rw [decide_eq_false h1]
          show ABr _ _ _
          refine ⟨fun _ => ?_, fun h => absurd h (by decide)⟩
          show ARet _ _ _
          refine ret_bo (x := bif bif decide (u.epoch = c.epoch) then decide (u.stage = 1) else false then decide (u.root = 0) else false) ?_ ⟨rfl, rfl⟩
          rw [decide_eq_true e1, decide_eq_true e2, decide_eq_true e3]
          rfl
        · have e1 : u.epoch = t.epoch := by rw [hu, e]
          have e2 : u.stage = 2 := by rw [hu, e]
          show ABr (!decide (t.epoch = c.epoch)) _ _
          rw [decide_eq_true h1]
          show ABr _ _ _
          refine ⟨fun h => absurd h (by decide), fun _ => ?_⟩
          show ABr (!decide (u.stage = t.stage)) _ _
          rw [decide_eq_false (show ¬ u.stage = t.stage by omega)]
          show ABr _ _ _
          refine ⟨fun _ => ?_, fun h => absurd h (by decide)⟩
          show ARet _ _ _
          refine ret_bo (x := bif bif decide (u.epoch = t.epoch) then decide (u.stage > t.stage) else false then bif decide (c.phase = 2) then true else decide (u.root = 0) else false) ?_ ⟨rfl, rfl⟩
          rw [decide_eq_true e1, decide_eq_true (show u.stage > t.stage by omega), decide_eq_true h2]
          rfl
        · show ABr (!decide (t.epoch = c.epoch)) _ _
          rw [decide_eq_true h1]
          show ABr _ _ _
          refine ⟨fun h => absurd h (by decide), fun _ => ?_⟩
          by_cases hr : t.root = 3
          · rw [if_pos hr] at e
            have e1 : u.epoch = t.epoch := by rw [hu, e]
            have e2 : u.stage = 3 := by rw [hu, e]
            have e3 : u.root = 0 := by rw [hu, e]
            show ABr (!decide (u.stage = t.stage)) _ _
            rw [decide_eq_false (show ¬ u.stage = t.stage by omega)]
            show ABr _ _ _
            refine ⟨fun _ => ?_, fun h => absurd h (by decide)⟩
            show ARet _ _ _
            refine ret_bo (x := bif bif decide (u.epoch = t.epoch) then decide (u.stage > t.stage) else false then bif decide (c.phase = 2) then true else decide (u.root = 0) else false) ?_ ⟨rfl, rfl⟩
            rw [decide_eq_true e1, decide_eq_true (show u.stage > t.stage by omega), decide_eq_true e3]
            cases decide (c.phase = 2) <;> rfl
          · rw [if_neg hr] at e
            have e1 : u.epoch = t.epoch := by rw [hu, e]
            have e2 : u.stage = t.stage := by rw [hu, e]
            have e3 : u.root = t.root + 1 := by rw [hu, e]
            show ABr (!decide (u.stage = t.stage)) _ _
            rw [decide_eq_true e2]
            show ABr _ _ _
            refine ⟨fun h => absurd h (by decide), fun _ => ?_⟩
            have wr : IntKind.i64.wrap (t.root + 1) = t.root + 1 := by
              obtain ⟨_, _, m3, m4, _⟩ := hm
              have := wrapP (i := t.root.toNat) (by unfold maxN; omega)
              rw [show ((t.root.toNat : Nat) : Int) = t.root by omega] at this
              rw [this]
              omega
            show ARet _ _ _
            refine ret_bo (x := bif bif decide (u.root = IntKind.i64.wrap (t.root + 1)) then decide (u.epoch = t.epoch) else false then !decide (c.phase = 2) else false) ?_ ⟨rfl, rfl⟩
            rw [wr, decide_eq_true e3, decide_eq_true e1, decide_eq_false h2]
            rfl
end Go.Abs
