/- Walks: the document's colours and answers. -/
import Derived.Test.YtpaidgcpjeagkaaGreatDoorWHandEnds
import Derived.Test.YtpaidgcpjeagkaaGreatDoorWRef11
import Derived.Test.YtpaidgcpjeagkaaGreatDoorWRegsTells
set_option linter.all false
set_option linter.unusedVariables false
set_option linter.unusedSimpArgs false
namespace Go.Abs
open Go.Proofs Go.Proofs.YtpaidgcpjeagkaaGreatDoor
set_option maxRecDepth 8000

theorem rAnswered_spec (c : Col) (t : Thread) : Spec X 43 [] [c.tv, t.tv] (Ret [] (.bo (answeredB c t))) := by
  refine spec_go X_ok Tryz.f43 (by kernel_rfl) (by kernel_rfl) (by kernel_rfl) fun hb hH => ⟨rfl, ?_⟩
  unfold answeredB
  show ABr (decide (c.phase = 0)) _ _
  refine ⟨fun h => ?_, fun h => ?_⟩
  · rw [if_pos (of_decide_eq_true h)]
    show ARet _ _ _
    exact ret_d rfl ⟨rfl, rfl⟩
  · rw [if_neg (of_decide_eq_false h)]
    show ABr (!decide (t.epoch = c.epoch)) _ _
    refine ⟨fun h => ?_, fun h => ?_⟩
    · have he : ¬ t.epoch = c.epoch := by simpa using h
      show ARet _ _ _
      refine ret_bo (x := false) ?_ ⟨rfl, rfl⟩
      split
      · rw [decide_eq_false he]
      · split
        · rw [decide_eq_false fun k => he k.1]
        · rw [decide_eq_false fun k => he k.1]
    · have he : t.epoch = c.epoch := by simpa using h
      show ABr (decide (c.phase = 1)) _ _
      refine ⟨fun h => ?_, fun h => ?_⟩
      · rw [if_pos (of_decide_eq_true h)]
        show ARet _ _ _
        refine ret_bo (x := true) ?_ ⟨rfl, rfl⟩
        rw [decide_eq_true he]
      · rw [if_neg (of_decide_eq_false h)]
        show ABr (decide (c.phase = 2)) _ _
        refine ⟨fun h => ?_, fun h => ?_⟩
        · rw [if_pos (of_decide_eq_true h)]
          show ARet _ _ _
          refine ret_bo (x := decide (t.stage ≥ 2)) ?_ ⟨rfl, rfl⟩
          rw [decide_eq_decide]
          exact ⟨fun k => ⟨he, k⟩, fun k => k.2⟩
        · rw [if_neg (of_decide_eq_false h)]
          show ARet _ _ _
          refine ret_bo (x := decide (t.stage = 3)) ?_ ⟨rfl, rfl⟩
          rw [decide_eq_decide]
          exact ⟨fun k => ⟨he, k⟩, fun k => k.2⟩

theorem rAsked_form (c : Col) (t : Thread) : (bif (bif (bif decide t.mayT then t.live else false) then decide (t.pc = 0) else false) then !answeredB c t else false) = askedB c t := by
  unfold askedB
  cases decide t.mayT <;> cases t.live <;> cases decide (t.pc = 0) <;> simp
theorem rAsked_spec (c : Col) (t : Thread) : Spec X 21 [] [c.tv, t.tv] (Ret [] (.bo (askedB c t))) := by
  refine spec_go X_ok Tryz.f21 (by kernel_rfl) (by kernel_rfl) (by kernel_rfl) fun hb hH => ⟨rfl, ?_⟩
  show ACall _ _ _ _ _ _
  refine call_ret (rMay12_spec t) rfl ?_
  rw [← rAsked_form]
  by_cases hb : (bif (bif decide t.mayT then t.live else false) then decide (t.pc = 0) else false) = true
  · rw [hb]
    show AIf ((bif (bif decide t.mayT then t.live else false) then decide (t.pc = 0) else false) = true ∧ True) _ _
    refine ⟨fun _ => ?_, fun h => absurd ⟨hb, trivial⟩ h⟩
    show ACall _ _ _ _ _ _
    refine call_ret (rAnswered_spec c t) rfl ?_
    show ARet _ _ _
    refine ret_bo (x := !answeredB c t) rfl ⟨rfl, rfl⟩
  · have hb' := Bool.eq_false_iff.2 hb
    rw [hb']
    show AIf ((bif (bif decide t.mayT then t.live else false) then decide (t.pc = 0) else false) = true ∧ True) _ _
    refine ⟨fun h => absurd h.1 hb, fun _ => ?_⟩
    show AOb _ _
    refine ⟨by exact hb', ?_⟩
    show ARet _ _ _
    refine ret_bo (x := false) rfl ⟨rfl, rfl⟩

theorem rAll15_spec (c : Col) (l : List Thread) : Spec X 22 [] [c.tv, .c (.d (.sl .thread l))] (Ret [] (.bo (allB c l))) := by
  refine spec_go X_ok Tryz.f22 (by kernel_rfl) (by kernel_rfl) (by kernel_rfl) fun hb hH => ⟨rfl, ?_⟩
  have hla : l.length ≤ maxN := (hb (.c (.d (.sl .thread l))) (by simp)).1
  unfold maxN at hla
  show ∃ n, _
  refine ⟨0, ALoop.inv (ι := {i : Nat // i ≤ l.length ∧ allB c (l.take i) = true}) (fun q => ⟨[(1, .c (.d (.sl .thread (l)))), (2, .c (.d (.rp (c.enc)))), (5, .int (q.1))], [], 32⟩) (fun q => l.length - q.1) ⟨0, Nat.zero_le _, by rw [List.take_zero]; rfl⟩ ?_ ?_⟩
  · exact ⟨[], (by repeat' first | exact .nil | refine .cons _ _ _ ?_ ?_ | exact .same | exact .c _ _ (.own _ _ rfl) | exact .c _ _ (.ptr _ _ _ _ rfl) | exact .c _ _ (.frz _ _ rfl) | exact .any _), (by exact .nil), (by rfl)⟩
  rintro ⟨i, hi, hv⟩
  have hi : i ≤ l.length := hi
  have hv : allB c (l.take i) = true := hv
  show ABr (decide ((i : Int) < (l.length : Int))) _ _
  refine ⟨fun h => ?_, fun h => ?_⟩
  · have hlt : i < l.length := by simpa using h
    have wi : IntKind.i64.wrap ((i : Int) + 1) = ((i + 1 : Nat) : Int) := wrapP (i := i) (by unfold maxN; omega)
    have hst := allB_take hlt c
    rw [hv, Bool.true_and, allB_one] at hst
    show AOb ((0 : Int) ≤ (i : Int) ∧ (i : Int) < (l.length : Int)) _
    refine ⟨by omega, ?_⟩
    show ABr ((l.getD i default).live) _ _
    refine ⟨fun h => ?_, fun h => ?_⟩
    · rw [h] at hst
      show AOb ((0 : Int) ≤ (i : Int) ∧ (i : Int) < (l.length : Int)) _
      refine ⟨by omega, ?_⟩
      show ADCall _ _ _ _ _ _
      refine .mk _ _ (rAnswered_spec c (l.getD i default)) rfl ?_
      show ABr (!answeredB c (l.getD i default)) _ _
      refine ⟨fun h => ?_, fun h => ?_⟩
      · have hz : answeredB c (l.getD i default) = false := by simpa using h
        show ARet _ _ _
        refine ret_bo (x := false) ?_ ⟨rfl, rfl⟩
        rw [hz] at hst
        have : allB c l = (allB c (l.take (i + 1)) && allB c (l.drop (i + 1))) := by rw [← allB_append, List.take_append_drop]
        rw [this, hst]
        rfl
      · have hz : answeredB c (l.getD i default) = true := by simpa using h
        rw [hz, Bool.or_true] at hst
        show ARound _ _ _ _
        exact ⟨⟨i + 1, hlt, hst⟩, (by dsimp only; omega), [], (by repeat' first | exact .nil | refine .cons _ _ _ ?_ ?_ | exact .int_eq wi | exact .same | exact .c _ _ (.own _ _ rfl) | exact .c _ _ (.ptr _ _ _ _ rfl) | exact .c _ _ (.frz _ _ rfl) | exact .any _), (by exact .nil), (by rfl)⟩
    · rw [h, Bool.not_false, Bool.true_or] at hst
      show ABr _ _ _
      refine ⟨fun h => absurd h (by decide), fun _ => ?_⟩
      show ARound _ _ _ _
      exact ⟨⟨i + 1, hlt, hst⟩, (by dsimp only; omega), [], (by repeat' first | exact .nil | refine .cons _ _ _ ?_ ?_ | exact .int_eq wi | exact .same | exact .c _ _ (.own _ _ rfl) | exact .c _ _ (.ptr _ _ _ _ rfl) | exact .c _ _ (.frz _ _ rfl) | exact .any _), (by exact .nil), (by rfl)⟩
  · have hge : i = l.length := by simp at h; omega
    rw [hge, List.take_length] at hv
    show ARet _ _ _
    refine ret_bo (x := true) hv.symm ⟨rfl, rfl⟩

set_option maxHeartbeats 4000000 in
set_option maxRecDepth 60000 in
theorem rAnswer_spec (g : Hp) (c : Col) (t : Thread) (hl : g.light) (hs : g.small) (hgw : ∀ x ∈ g.w, I64 x) (hw : c.work.length < most) (ht : t.ok) : Spec X 18 [] [g.tv, c.tv, t.tv] (Ret [] (.tup [(ansG g c t).tv, (ansC g c t).tv, (ansT c t).tv])) := by
  refine spec_go X_ok Tryz.f18 (by kernel_rfl) (by kernel_rfl) (by kernel_rfl) fun hb hH => ⟨rfl, ?_⟩
  show ACall _ _ _ _ _ _
  refine call_ret (rOwn7f_spec g hs) rfl ?_
  show ACall _ _ _ _ _ _
  refine call_ret (rcOwnf_spec c (Nat.le_of_lt hw)) rfl ?_
  show ACall _ _ _ _ _ _
  refine call_ret (rOwn12_spec t ht) rfl ?_
  show ACall _ _ _ _ _ _
  refine call_ret (rAsked_spec c t) rfl ?_
  show ABr (!askedB c t) _ _
  refine ⟨fun h => ?_, fun h => ?_⟩
  · have ha : askedB c t = false := by simpa using h
    rw [ansG_no ha, ansC_no ha, ansT_no ha]
    show ARet _ _ _
    exact ret_d rfl ⟨rfl, rfl⟩
  · have ha : askedB c t = true := by simpa using h
    show ABr (!decide (t.epoch = c.epoch)) _ _
    refine ⟨fun h => ?_, fun h => ?_⟩
    · have he : t.epoch ≠ c.epoch := by simpa using h
      rcases ans_cases ha with ⟨_, hk, e⟩ | ⟨h1, _⟩ | ⟨h1, _⟩
      · rw [e, show ansG g c t = g by unfold ansG; rw [if_neg (by omega)], show ansC g c t = c by unfold ansC; rw [if_neg (by omega)]]
        show ARet _ _ _
        exact ret_d rfl ⟨rfl, rfl⟩
      · exact absurd h1 he
      · exact absurd h1 he
    · have he : t.epoch = c.epoch := by simpa using h
      show ABr (decide (c.phase = 2)) _ _
      refine ⟨fun h => ?_, fun h => ?_⟩
      · have hp : c.phase = 2 := of_decide_eq_true h
        rcases ans_cases ha with ⟨h1, _⟩ | ⟨_, _, _, hk, e⟩ | ⟨_, _, _, h1, _⟩
        · exact absurd he h1
        · rw [e, show ansG g c t = g by unfold ansG; rw [if_neg (by omega)], show ansC g c t = c by unfold ansC; rw [if_neg (by omega)]]
          show ARet _ _ _
          exact ret_d rfl ⟨rfl, rfl⟩
        · exact absurd hp h1
      · have hp : c.phase ≠ 2 := of_decide_eq_false h
        obtain ⟨_, ⟨_, _, m3, m4, _⟩, _⟩ := asked_of ha
        rcases ans_cases ha with ⟨h1, _⟩ | ⟨_, h1, _⟩ | ⟨_, _, _, _, _, hk, e⟩
        · exact absurd he h1
        · exact absurd h1 hp
        · rw [e, show ansG g c t = shadeG g c (t.reg t.root) by unfold ansG; rw [if_pos hk], show ansC g c t = shadeC g c (t.reg t.root) by unfold ansC; rw [if_pos hk]]
          clear ha he hk e
          obtain ⟨live, r0, r1, r2, r3, cache, epoch, stage, root, ops, pc, x, y⟩ := t
          have m3 : 0 ≤ root := m3
          have m4 : root ≤ 3 := m4
          rcases (show root = 0 ∨ root = 1 ∨ root = 2 ∨ root = 3 by omega) with rfl | rfl | rfl | rfl
          · show AOb _ _
            refine ⟨by exact ⟨(by decide : (0 : Int) ≤ 0), (by decide : (0 : Int) < 4)⟩, ?_⟩
            show ADCall _ _ _ _ _ _
            refine .mk _ _ (rShade_spec g c r0 hl hs hgw hw) rfl ?_
            show ABr ((0 : Int) == 3) _ _
            show ABr _ _ _
            refine ⟨fun h => absurd h (by decide), fun _ => ?_⟩
            show ARet _ _ _
            exact ret_d rfl ⟨rfl, rfl⟩
          · show AOb _ _
            refine ⟨by exact ⟨(by decide : (0 : Int) ≤ 1), (by decide : (1 : Int) < 4)⟩, ?_⟩
            show ADCall _ _ _ _ _ _
            refine .mk _ _ (rShade_spec g c r1 hl hs hgw hw) rfl ?_
            show ABr ((1 : Int) == 3) _ _
            show ABr _ _ _
            refine ⟨fun h => absurd h (by decide), fun _ => ?_⟩
            show ARet _ _ _
            exact ret_d rfl ⟨rfl, rfl⟩
          · show AOb _ _
            refine ⟨by exact ⟨(by decide : (0 : Int) ≤ 2), (by decide : (2 : Int) < 4)⟩, ?_⟩
            show ADCall _ _ _ _ _ _
            refine .mk _ _ (rShade_spec g c r2 hl hs hgw hw) rfl ?_
            show ABr ((2 : Int) == 3) _ _
            show ABr _ _ _
            refine ⟨fun h => absurd h (by decide), fun _ => ?_⟩
            show ARet _ _ _
            exact ret_d rfl ⟨rfl, rfl⟩
          · show AOb _ _
            refine ⟨by exact ⟨(by decide : (0 : Int) ≤ 3), (by decide : (3 : Int) < 4)⟩, ?_⟩
            show ADCall _ _ _ _ _ _
            refine .mk _ _ (rShade_spec g c r3 hl hs hgw hw) rfl ?_
            show ABr ((3 : Int) == 3) _ _
            show ABr _ _ _
            refine ⟨fun _ => ?_, fun h => absurd h (by decide)⟩
            show ARet _ _ _
            exact ret_d rfl ⟨rfl, rfl⟩
end Go.Abs
