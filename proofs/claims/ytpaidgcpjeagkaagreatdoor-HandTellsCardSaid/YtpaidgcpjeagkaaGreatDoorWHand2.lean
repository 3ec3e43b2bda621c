/- Walks: a thread's answer. -/
import Derived.Test.YtpaidgcpjeagkaaGreatDoorWHand
import Derived.Test.YtpaidgcpjeagkaaGreatDoorWShade
set_option linter.all false
set_option linter.unusedVariables false
set_option linter.unusedSimpArgs false
namespace Go.Abs
open Go.Proofs Go.Proofs.YtpaidgcpjeagkaaGreatDoor
set_option maxRecDepth 8000

set_option maxHeartbeats 4000000 in
set_option maxRecDepth 60000 in
theorem Answer_spec (g : Hp) (c : Col) (t : Thread) (hl : g.light) (hs : g.small) (hw : c.work.length < most) (ht : t.ok) : Spec X 10 [] [g.tv, c.tv, t.tv] (Ret [] (.tup [(ansG g c t).tv, (ansC g c t).tv, (ansT c t).tv])) := by
  refine spec_go X_ok Tryz.f10 (by kernel_rfl) (by kernel_rfl) (by kernel_rfl) fun hb hH => ⟨rfl, ?_⟩
  show ACall _ _ _ _ _ _
  refine call_ret (Asked_spec c t) rfl ?_
  show ACall _ _ _ _ _ _
  refine call_ret (hown15_spec g c t hs (Nat.le_of_lt hw) ht) rfl ?_
  show ABr (!askedB c t) _ _
  refine ⟨fun h => ?_, fun h => ?_⟩
  · have ha : askedB c t = false := by simpa using h
    rw [ansG_no ha, ansC_no ha, ansT_no ha]
    show ARet _ _ _
    exact ret_d rfl ⟨rfl, rfl⟩
  · have ha : askedB c t = true := by simpa using h
    show ABr (!decide (t.epoch = c.epoch)) _ _
    refine ⟨fun h => ?_, fun h => ?_⟩
    · have he : t.epoch ≠ c.epoch := by simpa using h
      rcases ans_cases ha with ⟨_, hk, e⟩ | ⟨h1, _⟩ | ⟨h1, _⟩
      · rw [e, show ansG g c t = g by unfold ansG; rw [if_neg (by omega)], show ansC g c t = c by unfold ansC; rw [if_neg (by omega)]]
        show ARet _ _ _
        exact ret_d rfl ⟨rfl, rfl⟩
      · exact absurd h1 he
      · exact absurd h1 he
    · have he : t.epoch = c.epoch := by simpa using h
      show ABr (decide (c.phase = 2)) _ _
      refine ⟨fun h => ?_, fun h => ?_⟩
      · have hp : c.phase = 2 := of_decide_eq_true h
        rcases ans_cases ha with ⟨h1, _⟩ | ⟨_, _, _, hk, e⟩ | ⟨_, _, _, h1, _⟩
        · exact absurd he h1
        · rw [e, show ansG g c t = g by unfold ansG; rw [if_neg (by omega)], show ansC g c t = c by unfold ansC; rw [if_neg (by omega)]]
          show ARet _ _ _
          exact ret_d rfl ⟨rfl, rfl⟩
        · exact absurd hp h1
      · have hp : c.phase ≠ 2 := of_decide_eq_false h
        obtain ⟨_, ⟨_, _, m3, m4, _⟩, _⟩ := asked_of ha
        rcases ans_cases ha with ⟨h1, _⟩ | ⟨_, h1, _⟩ | ⟨_, _, _, _, _, hk, e⟩
        · exact absurd he h1
        · exact absurd h1 hp
        · rw [e, show ansG g c t = shadeG g c (t.reg t.root) by unfold ansG; rw [if_pos hk], show ansC g c t = shadeC g c (t.reg t.root) by unfold ansC; rw [if_pos hk]]
          clear ha he hk e
          obtain ⟨live, r0, r1, r2, r3, cache, epoch, stage, root, ops, pc, x, y⟩ := t
          have m3 : 0 ≤ root := m3
          have m4 : root ≤ 3 := m4
          rcases (show root = 0 ∨ root = 1 ∨ root = 2 ∨ root = 3 by omega) with rfl | rfl | rfl | rfl
          · show AOb _ _
            refine ⟨by exact ⟨(by decide : (0 : Int) ≤ 0), (by decide : (0 : Int) < 4)⟩, ?_⟩
            show ADCall _ _ _ _ _ _
            refine .mk _ _ (Shade_spec g c r0 hl hs hw) rfl ?_
            show ABr (IntKind.i64.wrap ((0 : Int) + 1) == 4) _ _
            show ABr _ _ _
            refine ⟨fun h => absurd h (by decide), fun _ => ?_⟩
            show ARet _ _ _
            exact ret_d rfl ⟨rfl, rfl⟩
          · show AOb _ _
            refine ⟨by exact ⟨(by decide : (0 : Int) ≤ 1), (by decide : (1 : Int) < 4)⟩, ?_⟩
            show ADCall _ _ _ _ _ _
            refine .mk _ _ (Shade_spec g c r1 hl hs hw) rfl ?_
            show ABr (IntKind.i64.wrap ((1 : Int) + 1) == 4) _ _
            show ABr _ _ _
            refine ⟨fun h => absurd h (by decide), fun _ => ?_⟩
            show ARet _ _ _
            exact ret_d rfl ⟨rfl, rfl⟩
          · show AOb _ _
            refine ⟨by exact ⟨(by decide : (0 : Int) ≤ 2), (by decide : (2 : Int) < 4)⟩, ?_⟩
            show ADCall _ _ _ _ _ _
            refine .mk _ _ (Shade_spec g c r2 hl hs hw) rfl ?_
            show ABr (IntKind.i64.wrap ((2 : Int) + 1) == 4) _ _
            show ABr _ _ _
            refine ⟨fun h => absurd h (by decide), fun _ => ?_⟩
            show ARet _ _ _
            exact ret_d rfl ⟨rfl, rfl⟩
          · show AOb _ _
            refine ⟨by exact ⟨(by decide : (0 : Int) ≤ 3), (by decide : (3 : Int) < 4)⟩, ?_⟩
            show ADCall _ _ _ _ _ _
            refine .mk _ _ (Shade_spec g c r3 hl hs hw) rfl ?_
            show ABr (IntKind.i64.wrap ((3 : Int) + 1) == 4) _ _
            show ABr _ _ _
            refine ⟨fun _ => ?_, fun h => absurd h (by decide)⟩
            show ARet _ _ _
            exact ret_d rfl ⟨rfl, rfl⟩
end Go.Abs
