/- Walks: any thread is asked, answers and begins as the document says. -/
import Derived.Test.YtpaidgcpjeagkaaGreatDoorWRef15
import Derived.Test.YtpaidgcpjeagkaaGreatDoorWHandStays
set_option linter.all false
set_option linter.unusedVariables false
set_option linter.unusedSimpArgs false
namespace Go.Abs
open Go.Proofs Go.Proofs.YtpaidgcpjeagkaaGreatDoor
set_option maxRecDepth 8000

theorem rBegin15_spec (c : Col) (t : Thread) (l : List Thread) (ht : t.ok) : Spec X 20 [] [c.tv, t.tv, .c (.d (.sl .thread l))] (Ret [] (beginT c t l).tv) := by
  refine spec_go X_ok Tryz.f20 (by kernel_rfl) (by kernel_rfl) (by kernel_rfl) fun hb hH => ⟨rfl, ?_⟩
  have hla : l.length ≤ maxN := (hb (.c (.d (.sl .thread l))) (by simp)).1
  unfold maxN at hla
  show ACall _ _ _ _ _ _
  refine call_ret (rOwn12_spec t ht) rfl ?_
  show ∃ n, _
  refine ⟨0, ALoop.inv (ι := {i : Nat // i ≤ l.length ∧ ∀ j, j < i → (l.getD j default).live = false}) (fun q => ⟨[(2, .c (.d (.sl .thread (l)))), (3, .c (.d (.rp (c.enc)))), (6, .c (.ptr 0 0 0)), (7, .c (.ptr 1 0 0)), (8, .int (q.1))], [(0, .vars ((EK.enc .thread Thread.zero).map .d)), (1, .vars ((EK.enc .thread (begin0 t t.epoch t.stage)).map .d))], 96⟩) (fun q => l.length - q.1) ⟨0, Nat.zero_le _, fun j hj => absurd hj (Nat.not_lt_zero j)⟩ ?_ ?_⟩
  · exact ⟨[(96, 0), (192, 1)], (by repeat' first | exact .nil | refine .cons _ _ _ ?_ ?_ | exact .same | exact .c _ _ (.own _ _ rfl) | exact .c _ _ (.ptr _ _ _ _ rfl) | exact .c _ _ (.frz _ _ rfl) | exact .any _), (by exact .old 0 96 _ _ _ rfl rfl (.vars _ _ (by repeat' first | exact .nil | refine .cons _ _ _ _ ?_ ?_ | exact .d _ | exact .nilsl _ | exact .frz _ _ rfl)) (.old 1 192 _ _ _ rfl rfl (.vars _ _ (LeL_refl rfl)) .nil)), (by rfl)⟩
  rintro ⟨i, hi, hv⟩
  show ABr (decide ((i : Int) < (l.length : Int))) _ _
  refine ⟨fun h => ?_, fun h => ?_⟩
  · have hlt : i < l.length := by simpa using h
    have wi : IntKind.i64.wrap ((i : Int) + 1) = ((i + 1 : Nat) : Int) := wrapP (i := i) (by unfold maxN; omega)
    show AOb ((0 : Int) ≤ (i : Int) ∧ (i : Int) < (l.length : Int)) _
    refine ⟨by omega, ?_⟩
    show ABr ((l.getD i default).live) _ _
    refine ⟨fun h => ?_, fun h => ?_⟩
    · have hfi : l.findIdx? (·.live) = some i := by
        rw [List.findIdx?_eq_some_iff_getElem]
        refine ⟨hlt, ?_, fun j hj => ?_⟩
        · rw [List.getD_eq_getElem?_getD, List.getElem?_eq_getElem hlt] at h
          exact h
        · have := hv j hj
          rw [List.getD_eq_getElem?_getD, List.getElem?_eq_getElem (by omega)] at this
          simpa using this
      obtain ⟨_, _, _, e⟩ := beginT_some (c := c) (t := t) hfi
      rw [e]
      show AOb ((0 : Int) ≤ (i : Int) ∧ (i : Int) < (l.length : Int)) _
      refine ⟨by omega, ?_⟩
      show AOb _ _
      refine ⟨by decide, ?_⟩
      show AOb _ _
      refine ⟨by decide, ?_⟩
      show AOb ((0 : Int) ≤ (i : Int) ∧ (i : Int) < (l.length : Int)) _
      refine ⟨by omega, ?_⟩
      show AOb ((0 : Int) ≤ (i : Int) ∧ (i : Int) < (l.length : Int)) _
      refine ⟨by omega, ?_⟩
      show ARet _ _ _
      exact ret_d rfl ⟨rfl, rfl⟩
    · have hv' : ∀ j, j < i + 1 → (l.getD j default).live = false := fun j hj => by
        by_cases e : j = i
        · rw [e]; exact h
        · exact hv j (by omega)
      show ARound _ _ _ _
      exact ⟨⟨i + 1, hlt, hv'⟩, (by dsimp only; omega), [(0, 0), (1, 1)], (by repeat' first | exact .nil | refine .cons _ _ _ ?_ ?_ | exact .int_eq wi | exact .same | exact .c _ _ (.own _ _ rfl) | exact .c _ _ (.ptr _ _ _ _ rfl) | exact .c _ _ (.frz _ _ rfl) | exact .any _), (by exact .old 0 0 _ _ _ rfl rfl (.vars _ _ (LeL_refl rfl)) (.old 1 1 _ _ _ rfl rfl (.vars _ _ (LeL_refl rfl)) .nil)), (by rfl)⟩
  · have hf : l.findIdx? (·.live) = none := by
      rw [List.findIdx?_eq_none_iff]
      intro x hx
      obtain ⟨j, hj, e⟩ := List.getElem_of_mem hx
      have hge : i = l.length := by simp at h; omega
      have := hv j (by omega)
      rw [List.getD_eq_getElem?_getD, List.getElem?_eq_getElem hj] at this
      rw [← e]
      simpa using this
    rw [beginT_none hf]
    show ABr (decide (c.phase = 0)) _ _
    refine ⟨fun h => ?_, fun h => ?_⟩
    · have h0 := of_decide_eq_true h
      unfold wantsH
      rw [if_pos h0, if_pos h0]
      show ARet _ _ _
      exact ret_d rfl ⟨rfl, rfl⟩
    · have h0 := of_decide_eq_false h
      unfold wantsH
      rw [if_neg h0, if_neg h0]
      show ABr (decide (c.phase = 1)) _ _
      refine ⟨fun h => ?_, fun h => ?_⟩
      · rw [if_pos (of_decide_eq_true h)]
        show ARet _ _ _
        exact ret_d rfl ⟨rfl, rfl⟩
      · rw [if_neg (of_decide_eq_false h)]
        show ABr (decide (c.phase = 2)) _ _
        refine ⟨fun h => ?_, fun h => ?_⟩
        · rw [if_pos (of_decide_eq_true h)]
          show ARet _ _ _
          exact ret_d rfl ⟨rfl, rfl⟩
        · rw [if_neg (of_decide_eq_false h)]
          show ARet _ _ _
          exact ret_d rfl ⟨rfl, rfl⟩

theorem HandTells_spec (g : Hp) (hgw : ∀ x ∈ g.w, I64 x) (c : Col) (t : Thread) (l : List Thread) : Spec X 5 [] [g.tv, c.tv, t.tv, .c (.d (.sl .thread l))] (Ret [] (.bo true)) := by
  refine spec_go X_ok Tryz.f5 (by kernel_rfl) (by kernel_rfl) (by kernel_rfl) fun hb hH => ⟨rfl, ?_⟩
  show ACall _ _ _ _ _ _
  refine call_ret (awake15_spec) rfl ?_
  show ACall _ _ _ _ _ _
  refine call_ret (few15_spec g c t) rfl ?_
  cases hf : few15 g c t with
  | false =>
    show ABr (bif (bif !true then true else !false) then true else decide ((l.length : Int) > 6)) _ _
    show ABr _ _ _
    refine ⟨fun _ => ?_, fun h => absurd h (by simp)⟩
    show ARet _ _ _
    exact ret_d rfl ⟨rfl, rfl⟩
  | true =>
    obtain ⟨f1, f2, f3, f4, f5⟩ := few15_of hf
    show ABr (bif (bif !true then true else !true) then true else decide ((l.length : Int) > 6)) _ _
    by_cases hl : (l.length : Int) > 6
    · rw [decide_eq_true hl]
      show ABr _ _ _
      refine ⟨fun _ => ?_, fun h => absurd h (by decide)⟩
      show ARet _ _ _
      exact ret_d rfl ⟨rfl, rfl⟩
    · rw [decide_eq_false hl]
      show ABr _ _ _
      refine ⟨fun h => absurd h (by decide), fun _ => ?_⟩
      show ACall _ _ _ _ _ _
      refine call_ret (Answer_spec g c t f2 f3 (work_most f4) f5) rfl ?_
      show ACall _ _ _ _ _ _
      refine call_ret (rAnswer_spec g c t f2 f3 hgw (work_most f4) f5) rfl ?_
      show ACall _ _ _ _ _ _
      refine call_ret (hSame_spec (ansG g c t) (ansG g c t)) rfl ?_
      rw [decide_eq_true (show ansG g c t = ansG g c t from rfl)]
      show ACall _ _ _ _ _ _
      refine call_ret (cSame_spec (ansC g c t) (ansC g c t)) rfl ?_
      rw [decide_eq_true (show ansC g c t = ansC g c t from rfl)]
      show ACall _ _ _ _ _ _
      refine call_ret (rSame12_spec (ansT c t) (ansT c t)) rfl ?_
      rw [decide_eq_true (show ansT c t = ansT c t from rfl)]
      show ADCall _ _ _ _ _ _
      refine .mk _ _ (Begin_spec c t l f5) rfl ?_
      show ADCall _ _ _ _ _ _
      refine .mk _ _ (rBegin15_spec c t l f5) rfl ?_
      show ADCall _ _ _ _ _ _
      refine .mk _ _ (rSame12_spec (beginT c t l) (beginT c t l)) rfl ?_
      rw [decide_eq_true (show beginT c t l = beginT c t l from rfl)]
      show ABr _ _ _
      refine ⟨fun _ => ?_, fun h => absurd h (by decide)⟩
      show ABr _ _ _
      refine ⟨fun _ => ?_, fun h => absurd h (by decide)⟩
      show ABr _ _ _
      refine ⟨fun _ => ?_, fun h => absurd h (by decide)⟩
      show ABr _ _ _
      refine ⟨fun _ => ?_, fun h => absurd h (by decide)⟩
      show ADCall _ _ _ _ _ _
      refine .mk _ _ (Asked_spec c t) rfl ?_
      show ADCall _ _ _ _ _ _
      refine .mk _ _ (rAsked_spec c t) rfl ?_
      show ABr (askedB c t == askedB c t) _ _
      show ABr _ _ _
      refine ⟨fun _ => ?_, fun h => absurd h (by simp)⟩
      show ADCall _ _ _ _ _ _
      refine .mk _ _ (hAll_spec c l) rfl ?_
      show ADCall _ _ _ _ _ _
      refine .mk _ _ (rAll15_spec c l) rfl ?_
      show ARet _ _ _
      refine ret_bo (x := allB c l == allB c l) (by simp) ⟨rfl, rfl⟩
end Go.Abs
