/- Walks: the law ListsOther. -/
import Derived.Test.YtlknhkocpjjkdaaWMoved
set_option linter.all false
set_option linter.unusedVariables false
set_option linter.unusedSimpArgs false
namespace Go.Abs
open Go.Proofs Go.Proofs.Ytlknhkocpjjkdaa
set_option maxRecDepth 8000

theorem flats_two (l m : Lists) : flats [l, m] = l.flat ++ m.flat := by simp [flats]

set_option maxHeartbeats 4000000 in
theorem ListsOther_spec (l : Lists) (hl : l.l0.length ≤ 1048576 ∧ l.l1.length ≤ 1048576 ∧ l.l2.length ≤ 1048576) (m : Lists) (hm : m.l0.length ≤ 1048576 ∧ m.l1.length ≤ 1048576 ∧ m.l2.length ≤ 1048576) (c : Int) (n : Int) (hn : (Lit.int .i64 n).wf = true) (a : Int) : Spec X 12 [] [l.tv, m.tv, .int c, .int n, .int a] (Ret [] (.bo true)) := by
  refine Spec.fz (spec_go Xf_ok Try.f12 (by kernel_rfl) (by kernel_rfl) (by kernel_rfl) fun _ _ => ⟨rfl, ?_⟩)
  have hfl := flat_len l
  have hfm := flat_len m
  have hnn := (wf_le hn).2
  show ACall _ _ _ _ _ _
  refine call_ret awake6_spec.uz rfl ?_
  show AIf _ _ _
  refine ⟨fun h1 => ?_, fun h1 => ?_⟩
  · have h1 : cond (cond (cond (!true) true (decide (c < 0))) true (decide (c > 2))) true (decide (n < 0)) = false ∧ True := h1
    simp at h1
    show ACall _ _ _ _ _ _
    refine .mk _ (All_spec [l, m] (by rw [flats_two, List.length_append]; unfold most; omega)).uz ?_
    rintro H r ⟨rfl, rfl⟩ _ _
    refine ⟨.inl rfl, ?_⟩
    show ABr (decide (((flats [l, m]).length : Int) > 200)) _ _
    refine ⟨fun _ => ?_, fun h2 => ?_⟩
    · show ARet _ _ _
      exact ret_bo (y := true) rfl ⟨rfl, rfl⟩
    · rw [flats_two, List.length_append, hfl, hfm] at h2
      simp at h2
      have hok : l.ok := by unfold Lists.ok most; omega
      have hok' : m.ok := by unfold Lists.ok most; omega
      have hc : c = 0 ∨ c = 1 ∨ c = 2 := by omega
      rcases hc with rfl | rfl | rfl
      · by_cases h0 : 0 < l.l0.length
        · show ACall _ _ _ _ _ _
          refine call_ret (Push_spec l 0 [a] (by decide) hok (by show l.l0.length + 1 ≤ most; unfold most; omega)).uz rfl ?_
          show ACall _ _ _ _ _ _
          refine call_ret (Pop_spec l 0 (by decide) hok h0).uz rfl ?_
          show ACall _ _ _ _ _ _
          refine call_ret (Move_spec l m 0 n (by decide) (by omega) hnn hok hok' (by show l.l0.length + m.l0.length ≤ most; unfold most; omega)).uz rfl ?_
          show AOb _ _
          refine ⟨by decide, ?_⟩
          show ACall _ _ _ _ _ _
          refine call_ret (Part_spec l 0 a _ (by decide) hok).uz rfl ?_
          show ∃ n, _
          refine ⟨4, .next ?_⟩
          show ABr _ _ _
          refine ⟨fun _ => ?_, fun hx => absurd hx (by decide)⟩
          show ABr _ _ _
          refine ⟨fun _ => ?_, fun hx => absurd hx (by decide)⟩
          show ALoop _ _ _ _
          refine .next ?_
          show ABr _ _ _
          refine ⟨fun _ => ?_, fun hx => absurd hx (by decide)⟩
          show ABr _ _ _
          refine ⟨fun hx => absurd hx (by decide), fun _ => ?_⟩
          show AOb _ _
          refine ⟨by decide, ?_⟩
          show AOb _ _
          refine ⟨by decide, ?_⟩
          show ADCall _ _ _ _ _ _
          refine .mk [] _ (Ints_spec l.l1 l.l1).uz rfl ?_
          show ABr (decide (l.l1 = l.l1)) _ _
          refine ⟨fun _ => ?_, fun hx => absurd hx (by simp)⟩
          show ABr _ _ _
          refine ⟨fun hx => absurd hx (by decide), fun _ => ?_⟩
          show AOb _ _
          refine ⟨by decide, ?_⟩
          show AOb _ _
          refine ⟨by decide, ?_⟩
          show ADCall _ _ _ _ _ _
          refine .mk [] _ (Ints_spec l.l1 l.l1).uz rfl ?_
          show AOb _ _
          refine ⟨by decide, ?_⟩
          show AOb _ _
          refine ⟨by decide, ?_⟩
          show ADCall _ _ _ _ _ _
          refine .mk [] _ (Ints_spec l.l1 l.l1).uz rfl ?_
          show ABr (decide (l.l1 = l.l1)) _ _
          refine ⟨fun _ => ?_, fun hx => absurd hx (by simp)⟩
          show AOb _ _
          refine ⟨by decide, ?_⟩
          show AOb _ _
          refine ⟨by decide, ?_⟩
          show ADCall _ _ _ _ _ _
          refine .mk [] _ (Ints_spec m.l1 m.l1).uz rfl ?_
          show ABr (decide (m.l1 = m.l1)) _ _
          refine ⟨fun _ => ?_, fun hx => absurd hx (by simp)⟩
          show AOb _ _
          refine ⟨by decide, ?_⟩
          show AOb _ _
          refine ⟨by decide, ?_⟩
          show ADCall _ _ _ _ _ _
          refine .mk [] _ (Ints_spec l.l1 l.l1).uz rfl ?_
          show ABr _ _ _
          refine ⟨fun hx => absurd hx (by simp), fun _ => ?_⟩
          show ALoop _ _ _ _
          refine .next ?_
          show ABr _ _ _
          refine ⟨fun _ => ?_, fun hx => absurd hx (by decide)⟩
          show ABr _ _ _
          refine ⟨fun hx => absurd hx (by decide), fun _ => ?_⟩
          show AOb _ _
          refine ⟨by decide, ?_⟩
          show AOb _ _
          refine ⟨by decide, ?_⟩
          show ADCall _ _ _ _ _ _
          refine .mk [] _ (Ints_spec l.l2 l.l2).uz rfl ?_
          show ABr (decide (l.l2 = l.l2)) _ _
          refine ⟨fun _ => ?_, fun hx => absurd hx (by simp)⟩
          show ABr _ _ _
          refine ⟨fun hx => absurd hx (by decide), fun _ => ?_⟩
          show AOb _ _
          refine ⟨by decide, ?_⟩
          show AOb _ _
          refine ⟨by decide, ?_⟩
          show ADCall _ _ _ _ _ _
          refine .mk [] _ (Ints_spec l.l2 l.l2).uz rfl ?_
          show AOb _ _
          refine ⟨by decide, ?_⟩
          show AOb _ _
          refine ⟨by decide, ?_⟩
          show ADCall _ _ _ _ _ _
          refine .mk [] _ (Ints_spec l.l2 l.l2).uz rfl ?_
          show ABr (decide (l.l2 = l.l2)) _ _
          refine ⟨fun _ => ?_, fun hx => absurd hx (by simp)⟩
          show AOb _ _
          refine ⟨by decide, ?_⟩
          show AOb _ _
          refine ⟨by decide, ?_⟩
          show ADCall _ _ _ _ _ _
          refine .mk [] _ (Ints_spec m.l2 m.l2).uz rfl ?_
          show ABr (decide (m.l2 = m.l2)) _ _
          refine ⟨fun _ => ?_, fun hx => absurd hx (by simp)⟩
          show AOb _ _
          refine ⟨by decide, ?_⟩
          show AOb _ _
          refine ⟨by decide, ?_⟩
          show ADCall _ _ _ _ _ _
          refine .mk [] _ (Ints_spec l.l2 l.l2).uz rfl ?_
          show ABr _ _ _
          refine ⟨fun hx => absurd hx (by simp), fun _ => ?_⟩
          show ALoop _ _ _ _
          refine .next ?_
          show ABr _ _ _
          refine ⟨fun hx => absurd hx (by decide), fun _ => ?_⟩
          show AOb _ _
          refine ⟨fun _ => by decide, ?_⟩
          show ARet _ _ _
          refine ret_bo (y := true) (x := (true == decide ((l.l0.length : Int) > 0))) ?_ ⟨rfl, rfl⟩
          rw [decide_eq_true (by omega)]
          rfl
        · show ACall _ _ _ _ _ _
          refine call_ret (Push_spec l 0 [a] (by decide) hok (by show l.l0.length + 1 ≤ most; unfold most; omega)).uz rfl ?_
          show ACall _ _ _ _ _ _
          refine call_ret (Pop_none l 0 (by decide) (List.eq_nil_of_length_eq_zero (by show l.l0.length = 0; omega))).uz rfl ?_
          show ACall _ _ _ _ _ _
          refine call_ret (Move_spec l m 0 n (by decide) (by omega) hnn hok hok' (by show l.l0.length + m.l0.length ≤ most; unfold most; omega)).uz rfl ?_
          show AOb _ _
          refine ⟨by decide, ?_⟩
          show ACall _ _ _ _ _ _
          refine call_ret (Part_spec l 0 a _ (by decide) hok).uz rfl ?_
          show ∃ n, _
          refine ⟨4, .next ?_⟩
          show ABr _ _ _
          refine ⟨fun _ => ?_, fun hx => absurd hx (by decide)⟩
          show ABr _ _ _
          refine ⟨fun _ => ?_, fun hx => absurd hx (by decide)⟩
          show ALoop _ _ _ _
          refine .next ?_
          show ABr _ _ _
          refine ⟨fun _ => ?_, fun hx => absurd hx (by decide)⟩
          show ABr _ _ _
          refine ⟨fun hx => absurd hx (by decide), fun _ => ?_⟩
          show AOb _ _
          refine ⟨by decide, ?_⟩
          show AOb _ _
          refine ⟨by decide, ?_⟩
          show ADCall _ _ _ _ _ _
          refine .mk [] _ (Ints_spec l.l1 l.l1).uz rfl ?_
          show ABr (decide (l.l1 = l.l1)) _ _
          refine ⟨fun _ => ?_, fun hx => absurd hx (by simp)⟩
          show ABr _ _ _
          refine ⟨fun _ => ?_, fun hx => absurd hx (by decide)⟩
          show AOb _ _
          refine ⟨by decide, ?_⟩
          show AOb _ _
          refine ⟨by decide, ?_⟩
          show ADCall _ _ _ _ _ _
          refine .mk [] _ (Ints_spec l.l1 l.l1).uz rfl ?_
          show ABr (decide (l.l1 = l.l1)) _ _
          refine ⟨fun _ => ?_, fun hx => absurd hx (by simp)⟩
          show AOb _ _
          refine ⟨by decide, ?_⟩
          show AOb _ _
          refine ⟨by decide, ?_⟩
          show ADCall _ _ _ _ _ _
          refine .mk [] _ (Ints_spec m.l1 m.l1).uz rfl ?_
          show ABr (decide (m.l1 = m.l1)) _ _
          refine ⟨fun _ => ?_, fun hx => absurd hx (by simp)⟩
          show AOb _ _
          refine ⟨by decide, ?_⟩
          show AOb _ _
          refine ⟨by decide, ?_⟩
          show ADCall _ _ _ _ _ _
          refine .mk [] _ (Ints_spec l.l1 l.l1).uz rfl ?_
          show ABr _ _ _
          refine ⟨fun hx => absurd hx (by simp), fun _ => ?_⟩
          show ALoop _ _ _ _
          refine .next ?_
          show ABr _ _ _
          refine ⟨fun _ => ?_, fun hx => absurd hx (by decide)⟩
          show ABr _ _ _
          refine ⟨fun hx => absurd hx (by decide), fun _ => ?_⟩
          show AOb _ _
          refine ⟨by decide, ?_⟩
          show AOb _ _
          refine ⟨by decide, ?_⟩
          show ADCall _ _ _ _ _ _
          refine .mk [] _ (Ints_spec l.l2 l.l2).uz rfl ?_
          show ABr (decide (l.l2 = l.l2)) _ _
          refine ⟨fun _ => ?_, fun hx => absurd hx (by simp)⟩
          show ABr _ _ _
          refine ⟨fun _ => ?_, fun hx => absurd hx (by decide)⟩
          show AOb _ _
          refine ⟨by decide, ?_⟩
          show AOb _ _
          refine ⟨by decide, ?_⟩
          show ADCall _ _ _ _ _ _
          refine .mk [] _ (Ints_spec l.l2 l.l2).uz rfl ?_
          show ABr (decide (l.l2 = l.l2)) _ _
          refine ⟨fun _ => ?_, fun hx => absurd hx (by simp)⟩
          show AOb _ _
          refine ⟨by decide, ?_⟩
          show AOb _ _
          refine ⟨by decide, ?_⟩
          show ADCall _ _ _ _ _ _
          refine .mk [] _ (Ints_spec m.l2 m.l2).uz rfl ?_
          show ABr (decide (m.l2 = m.l2)) _ _
          refine ⟨fun _ => ?_, fun hx => absurd hx (by simp)⟩
          show AOb _ _
          refine ⟨by decide, ?_⟩
          show AOb _ _
          refine ⟨by decide, ?_⟩
          show ADCall _ _ _ _ _ _
          refine .mk [] _ (Ints_spec l.l2 l.l2).uz rfl ?_
          show ABr _ _ _
          refine ⟨fun hx => absurd hx (by simp), fun _ => ?_⟩
          show ALoop _ _ _ _
          refine .next ?_
          show ABr _ _ _
          refine ⟨fun hx => absurd hx (by decide), fun _ => ?_⟩
          show AOb _ _
          refine ⟨fun _ => by decide, ?_⟩
          show ARet _ _ _
          refine ret_bo (y := true) (x := (false == decide ((l.l0.length : Int) > 0))) ?_ ⟨rfl, rfl⟩
          rw [decide_eq_false (by omega)]
          rfl
      · by_cases h0 : 0 < l.l1.length
        · show ACall _ _ _ _ _ _
          refine call_ret (Push_spec l 1 [a] (by decide) hok (by show l.l1.length + 1 ≤ most; unfold most; omega)).uz rfl ?_
          show ACall _ _ _ _ _ _
          refine call_ret (Pop_spec l 1 (by decide) hok h0).uz rfl ?_
          show ACall _ _ _ _ _ _
          refine call_ret (Move_spec l m 1 n (by decide) (by omega) hnn hok hok' (by show l.l1.length + m.l1.length ≤ most; unfold most; omega)).uz rfl ?_
          show AOb _ _
          refine ⟨by decide, ?_⟩
          show ACall _ _ _ _ _ _
          refine call_ret (Part_spec l 1 a _ (by decide) hok).uz rfl ?_
          show ∃ n, _
          refine ⟨4, .next ?_⟩
          show ABr _ _ _
          refine ⟨fun _ => ?_, fun hx => absurd hx (by decide)⟩
          show ABr _ _ _
          refine ⟨fun hx => absurd hx (by decide), fun _ => ?_⟩
          show AOb _ _
          refine ⟨by decide, ?_⟩
          show AOb _ _
          refine ⟨by decide, ?_⟩
          show ADCall _ _ _ _ _ _
          refine .mk [] _ (Ints_spec l.l0 l.l0).uz rfl ?_
          show ABr (decide (l.l0 = l.l0)) _ _
          refine ⟨fun _ => ?_, fun hx => absurd hx (by simp)⟩
          show ABr _ _ _
          refine ⟨fun hx => absurd hx (by decide), fun _ => ?_⟩
          show AOb _ _
          refine ⟨by decide, ?_⟩
          show AOb _ _
          refine ⟨by decide, ?_⟩
          show ADCall _ _ _ _ _ _
          refine .mk [] _ (Ints_spec l.l0 l.l0).uz rfl ?_
          show AOb _ _
          refine ⟨by decide, ?_⟩
          show AOb _ _
          refine ⟨by decide, ?_⟩
          show ADCall _ _ _ _ _ _
          refine .mk [] _ (Ints_spec l.l0 l.l0).uz rfl ?_
          show ABr (decide (l.l0 = l.l0)) _ _
          refine ⟨fun _ => ?_, fun hx => absurd hx (by simp)⟩
          show AOb _ _
          refine ⟨by decide, ?_⟩
          show AOb _ _
          refine ⟨by decide, ?_⟩
          show ADCall _ _ _ _ _ _
          refine .mk [] _ (Ints_spec m.l0 m.l0).uz rfl ?_
          show ABr (decide (m.l0 = m.l0)) _ _
          refine ⟨fun _ => ?_, fun hx => absurd hx (by simp)⟩
          show AOb _ _
          refine ⟨by decide, ?_⟩
          show AOb _ _
          refine ⟨by decide, ?_⟩
          show ADCall _ _ _ _ _ _
          refine .mk [] _ (Ints_spec l.l0 l.l0).uz rfl ?_
          show ABr _ _ _
          refine ⟨fun hx => absurd hx (by simp), fun _ => ?_⟩
          show ALoop _ _ _ _
          refine .next ?_
          show ABr _ _ _
          refine ⟨fun _ => ?_, fun hx => absurd hx (by decide)⟩
          show ABr _ _ _
          refine ⟨fun _ => ?_, fun hx => absurd hx (by decide)⟩
          show ALoop _ _ _ _
          refine .next ?_
          show ABr _ _ _
          refine ⟨fun _ => ?_, fun hx => absurd hx (by decide)⟩
          show ABr _ _ _
          refine ⟨fun hx => absurd hx (by decide), fun _ => ?_⟩
          show AOb _ _
          refine ⟨by decide, ?_⟩
          show AOb _ _
          refine ⟨by decide, ?_⟩
          show ADCall _ _ _ _ _ _
          refine .mk [] _ (Ints_spec l.l2 l.l2).uz rfl ?_
          show ABr (decide (l.l2 = l.l2)) _ _
          refine ⟨fun _ => ?_, fun hx => absurd hx (by simp)⟩
          show ABr _ _ _
          refine ⟨fun hx => absurd hx (by decide), fun _ => ?_⟩
          show AOb _ _
          refine ⟨by decide, ?_⟩
          show AOb _ _
          refine ⟨by decide, ?_⟩
          show ADCall _ _ _ _ _ _
          refine .mk [] _ (Ints_spec l.l2 l.l2).uz rfl ?_
          show AOb _ _
          refine ⟨by decide, ?_⟩
          show AOb _ _
          refine ⟨by decide, ?_⟩
          show ADCall _ _ _ _ _ _
          refine .mk [] _ (Ints_spec l.l2 l.l2).uz rfl ?_
          show ABr (decide (l.l2 = l.l2)) _ _
          refine ⟨fun _ => ?_, fun hx => absurd hx (by simp)⟩
          show AOb _ _
          refine ⟨by decide, ?_⟩
          show AOb _ _
          refine ⟨by decide, ?_⟩
          show ADCall _ _ _ _ _ _
          refine .mk [] _ (Ints_spec m.l2 m.l2).uz rfl ?_
          show ABr (decide (m.l2 = m.l2)) _ _
          refine ⟨fun _ => ?_, fun hx => absurd hx (by simp)⟩
          show AOb _ _
          refine ⟨by decide, ?_⟩
          show AOb _ _
          refine ⟨by decide, ?_⟩
          show ADCall _ _ _ _ _ _
          refine .mk [] _ (Ints_spec l.l2 l.l2).uz rfl ?_
          show ABr _ _ _
          refine ⟨fun hx => absurd hx (by simp), fun _ => ?_⟩
          show ALoop _ _ _ _
          refine .next ?_
          show ABr _ _ _
          refine ⟨fun hx => absurd hx (by decide), fun _ => ?_⟩
          show AOb _ _
          refine ⟨fun _ => by decide, ?_⟩
          show ARet _ _ _
          refine ret_bo (y := true) (x := (true == decide ((l.l1.length : Int) > 0))) ?_ ⟨rfl, rfl⟩
          rw [decide_eq_true (by omega)]
          rfl
        · show ACall _ _ _ _ _ _
          refine call_ret (Push_spec l 1 [a] (by decide) hok (by show l.l1.length + 1 ≤ most; unfold most; omega)).uz rfl ?_
          show ACall _ _ _ _ _ _
          refine call_ret (Pop_none l 1 (by decide) (List.eq_nil_of_length_eq_zero (by show l.l1.length = 0; omega))).uz rfl ?_
          show ACall _ _ _ _ _ _
          refine call_ret (Move_spec l m 1 n (by decide) (by omega) hnn hok hok' (by show l.l1.length + m.l1.length ≤ most; unfold most; omega)).uz rfl ?_
          show AOb _ _
          refine ⟨by decide, ?_⟩
          show ACall _ _ _ _ _ _
          refine call_ret (Part_spec l 1 a _ (by decide) hok).uz rfl ?_
          show ∃ n, _
          refine ⟨4, .next ?_⟩
          show ABr _ _ _
          refine ⟨fun _ => ?_, fun hx => absurd hx (by decide)⟩
          show ABr _ _ _
          refine ⟨fun hx => absurd hx (by decide), fun _ => ?_⟩
          show AOb _ _
          refine ⟨by decide, ?_⟩
          show AOb _ _
          refine ⟨by decide, ?_⟩
          show ADCall _ _ _ _ _ _
          refine .mk [] _ (Ints_spec l.l0 l.l0).uz rfl ?_
          show ABr (decide (l.l0 = l.l0)) _ _
          refine ⟨fun _ => ?_, fun hx => absurd hx (by simp)⟩
          show ABr _ _ _
          refine ⟨fun _ => ?_, fun hx => absurd hx (by decide)⟩
          show AOb _ _
          refine ⟨by decide, ?_⟩
          show AOb _ _
          refine ⟨by decide, ?_⟩
          show ADCall _ _ _ _ _ _
          refine .mk [] _ (Ints_spec l.l0 l.l0).uz rfl ?_
          show ABr (decide (l.l0 = l.l0)) _ _
          refine ⟨fun _ => ?_, fun hx => absurd hx (by simp)⟩
          show AOb _ _
          refine ⟨by decide, ?_⟩
          show AOb _ _
          refine ⟨by decide, ?_⟩
          show ADCall _ _ _ _ _ _
          refine .mk [] _ (Ints_spec m.l0 m.l0).uz rfl ?_
          show ABr (decide (m.l0 = m.l0)) _ _
          refine ⟨fun _ => ?_, fun hx => absurd hx (by simp)⟩
          show AOb _ _
          refine ⟨by decide, ?_⟩
          show AOb _ _
          refine ⟨by decide, ?_⟩
          show ADCall _ _ _ _ _ _
          refine .mk [] _ (Ints_spec l.l0 l.l0).uz rfl ?_
          show ABr _ _ _
          refine ⟨fun hx => absurd hx (by simp), fun _ => ?_⟩
          show ALoop _ _ _ _
          refine .next ?_
          show ABr _ _ _
          refine ⟨fun _ => ?_, fun hx => absurd hx (by decide)⟩
          show ABr _ _ _
          refine ⟨fun _ => ?_, fun hx => absurd hx (by decide)⟩
          show ALoop _ _ _ _
          refine .next ?_
          show ABr _ _ _
          refine ⟨fun _ => ?_, fun hx => absurd hx (by decide)⟩
          show ABr _ _ _
          refine ⟨fun hx => absurd hx (by decide), fun _ => ?_⟩
          show AOb _ _
          refine ⟨by decide, ?_⟩
          show AOb _ _
          refine ⟨by decide, ?_⟩
          show ADCall _ _ _ _ _ _
          refine .mk [] _ (Ints_spec l.l2 l.l2).uz rfl ?_
          show ABr (decide (l.l2 = l.l2)) _ _
          refine ⟨fun _ => ?_, fun hx => absurd hx (by simp)⟩
          show ABr _ _ _
          refine ⟨fun _ => ?_, fun hx => absurd hx (by decide)⟩
          show AOb _ _
          refine ⟨by decide, ?_⟩
          show AOb _ _
          refine ⟨by decide, ?_⟩
          show ADCall _ _ _ _ _ _
          refine .mk [] _ (Ints_spec l.l2 l.l2).uz rfl ?_
          show ABr (decide (l.l2 = l.l2)) _ _
          refine ⟨fun _ => ?_, fun hx => absurd hx (by simp)⟩
          show AOb _ _
          refine ⟨by decide, ?_⟩
          show AOb _ _
          refine ⟨by decide, ?_⟩
          show ADCall _ _ _ _ _ _
          refine .mk [] _ (Ints_spec m.l2 m.l2).uz rfl ?_
          show ABr (decide (m.l2 = m.l2)) _ _
          refine ⟨fun _ => ?_, fun hx => absurd hx (by simp)⟩
          show AOb _ _
          refine ⟨by decide, ?_⟩
          show AOb _ _
          refine ⟨by decide, ?_⟩
          show ADCall _ _ _ _ _ _
          refine .mk [] _ (Ints_spec l.l2 l.l2).uz rfl ?_
          show ABr _ _ _
          refine ⟨fun hx => absurd hx (by simp), fun _ => ?_⟩
          show ALoop _ _ _ _
          refine .next ?_
          show ABr _ _ _
          refine ⟨fun hx => absurd hx (by decide), fun _ => ?_⟩
          show AOb _ _
          refine ⟨fun _ => by decide, ?_⟩
          show ARet _ _ _
          refine ret_bo (y := true) (x := (false == decide ((l.l1.length : Int) > 0))) ?_ ⟨rfl, rfl⟩
          rw [decide_eq_false (by omega)]
          rfl
      · by_cases h0 : 0 < l.l2.length
        · show ACall _ _ _ _ _ _
          refine call_ret (Push_spec l 2 [a] (by decide) hok (by show l.l2.length + 1 ≤ most; unfold most; omega)).uz rfl ?_
          show ACall _ _ _ _ _ _
          refine call_ret (Pop_spec l 2 (by decide) hok h0).uz rfl ?_
          show ACall _ _ _ _ _ _
          refine call_ret (Move_spec l m 2 n (by decide) (by omega) hnn hok hok' (by show l.l2.length + m.l2.length ≤ most; unfold most; omega)).uz rfl ?_
          show AOb _ _
          refine ⟨by decide, ?_⟩
          show ACall _ _ _ _ _ _
          refine call_ret (Part_spec l 2 a _ (by decide) hok).uz rfl ?_
          show ∃ n, _
          refine ⟨4, .next ?_⟩
          show ABr _ _ _
          refine ⟨fun _ => ?_, fun hx => absurd hx (by decide)⟩
          show ABr _ _ _
          refine ⟨fun hx => absurd hx (by decide), fun _ => ?_⟩
          show AOb _ _
          refine ⟨by decide, ?_⟩
          show AOb _ _
          refine ⟨by decide, ?_⟩
          show ADCall _ _ _ _ _ _
          refine .mk [] _ (Ints_spec l.l0 l.l0).uz rfl ?_
          show ABr (decide (l.l0 = l.l0)) _ _
          refine ⟨fun _ => ?_, fun hx => absurd hx (by simp)⟩
          show ABr _ _ _
          refine ⟨fun hx => absurd hx (by decide), fun _ => ?_⟩
          show AOb _ _
          refine ⟨by decide, ?_⟩
          show AOb _ _
          refine ⟨by decide, ?_⟩
          show ADCall _ _ _ _ _ _
          refine .mk [] _ (Ints_spec l.l0 l.l0).uz rfl ?_
          show AOb _ _
          refine ⟨by decide, ?_⟩
          show AOb _ _
          refine ⟨by decide, ?_⟩
          show ADCall _ _ _ _ _ _
          refine .mk [] _ (Ints_spec l.l0 l.l0).uz rfl ?_
          show ABr (decide (l.l0 = l.l0)) _ _
          refine ⟨fun _ => ?_, fun hx => absurd hx (by simp)⟩
          show AOb _ _
          refine ⟨by decide, ?_⟩
          show AOb _ _
          refine ⟨by decide, ?_⟩
          show ADCall _ _ _ _ _ _
          refine .mk [] _ (Ints_spec m.l0 m.l0).uz rfl ?_
          show ABr (decide (m.l0 = m.l0)) _ _
          refine ⟨fun _ => ?_, fun hx => absurd hx (by simp)⟩
          show AOb _ _
          refine ⟨by decide, ?_⟩
          show AOb _ _
          refine ⟨by decide, ?_⟩
          show ADCall _ _ _ _ _ _
          refine .mk [] _ (Ints_spec l.l0 l.l0).uz rfl ?_
          show ABr _ _ _
          refine ⟨fun hx => absurd hx (by simp), fun _ => ?_⟩
          show ALoop _ _ _ _
          refine .next ?_
          show ABr _ _ _
          refine ⟨fun _ => ?_, fun hx => absurd hx (by decide)⟩
          show ABr _ _ _
          refine ⟨fun hx => absurd hx (by decide), fun _ => ?_⟩
          show AOb _ _
          refine ⟨by decide, ?_⟩
          show AOb _ _
          refine ⟨by decide, ?_⟩
          show ADCall _ _ _ _ _ _
          refine .mk [] _ (Ints_spec l.l1 l.l1).uz rfl ?_
          show ABr (decide (l.l1 = l.l1)) _ _
          refine ⟨fun _ => ?_, fun hx => absurd hx (by simp)⟩
          show ABr _ _ _
          refine ⟨fun hx => absurd hx (by decide), fun _ => ?_⟩
          show AOb _ _
          refine ⟨by decide, ?_⟩
          show AOb _ _
          refine ⟨by decide, ?_⟩
          show ADCall _ _ _ _ _ _
          refine .mk [] _ (Ints_spec l.l1 l.l1).uz rfl ?_
          show AOb _ _
          refine ⟨by decide, ?_⟩
          show AOb _ _
          refine ⟨by decide, ?_⟩
          show ADCall _ _ _ _ _ _
          refine .mk [] _ (Ints_spec l.l1 l.l1).uz rfl ?_
          show ABr (decide (l.l1 = l.l1)) _ _
          refine ⟨fun _ => ?_, fun hx => absurd hx (by simp)⟩
          show AOb _ _
          refine ⟨by decide, ?_⟩
          show AOb _ _
          refine ⟨by decide, ?_⟩
          show ADCall _ _ _ _ _ _
          refine .mk [] _ (Ints_spec m.l1 m.l1).uz rfl ?_
          show ABr (decide (m.l1 = m.l1)) _ _
          refine ⟨fun _ => ?_, fun hx => absurd hx (by simp)⟩
          show AOb _ _
          refine ⟨by decide, ?_⟩
          show AOb _ _
          refine ⟨by decide, ?_⟩
          show ADCall _ _ _ _ _ _
          refine .mk [] _ (Ints_spec l.l1 l.l1).uz rfl ?_
          show ABr _ _ _
          refine ⟨fun hx => absurd hx (by simp), fun _ => ?_⟩
          show ALoop _ _ _ _
          refine .next ?_
          show ABr _ _ _
          refine ⟨fun _ => ?_, fun hx => absurd hx (by decide)⟩
          show ABr _ _ _
          refine ⟨fun _ => ?_, fun hx => absurd hx (by decide)⟩
          show ALoop _ _ _ _
          refine .next ?_
          show ABr _ _ _
          refine ⟨fun hx => absurd hx (by decide), fun _ => ?_⟩
          show AOb _ _
          refine ⟨fun _ => by decide, ?_⟩
          show ARet _ _ _
          refine ret_bo (y := true) (x := (true == decide ((l.l2.length : Int) > 0))) ?_ ⟨rfl, rfl⟩
          rw [decide_eq_true (by omega)]
          rfl
        · show ACall _ _ _ _ _ _
          refine call_ret (Push_spec l 2 [a] (by decide) hok (by show l.l2.length + 1 ≤ most; unfold most; omega)).uz rfl ?_
          show ACall _ _ _ _ _ _
          refine call_ret (Pop_none l 2 (by decide) (List.eq_nil_of_length_eq_zero (by show l.l2.length = 0; omega))).uz rfl ?_
          show ACall _ _ _ _ _ _
          refine call_ret (Move_spec l m 2 n (by decide) (by omega) hnn hok hok' (by show l.l2.length + m.l2.length ≤ most; unfold most; omega)).uz rfl ?_
          show AOb _ _
          refine ⟨by decide, ?_⟩
          show ACall _ _ _ _ _ _
          refine call_ret (Part_spec l 2 a _ (by decide) hok).uz rfl ?_
          show ∃ n, _
          refine ⟨4, .next ?_⟩
          show ABr _ _ _
          refine ⟨fun _ => ?_, fun hx => absurd hx (by decide)⟩
          show ABr _ _ _
          refine ⟨fun hx => absurd hx (by decide), fun _ => ?_⟩
          show AOb _ _
          refine ⟨by decide, ?_⟩
          show AOb _ _
          refine ⟨by decide, ?_⟩
          show ADCall _ _ _ _ _ _
          refine .mk [] _ (Ints_spec l.l0 l.l0).uz rfl ?_
          show ABr (decide (l.l0 = l.l0)) _ _
          refine ⟨fun _ => ?_, fun hx => absurd hx (by simp)⟩
          show ABr _ _ _
          refine ⟨fun _ => ?_, fun hx => absurd hx (by decide)⟩
          show AOb _ _
          refine ⟨by decide, ?_⟩
          show AOb _ _
          refine ⟨by decide, ?_⟩
          show ADCall _ _ _ _ _ _
          refine .mk [] _ (Ints_spec l.l0 l.l0).uz rfl ?_
          show ABr (decide (l.l0 = l.l0)) _ _
          refine ⟨fun _ => ?_, fun hx => absurd hx (by simp)⟩
          show AOb _ _
          refine ⟨by decide, ?_⟩
          show AOb _ _
          refine ⟨by decide, ?_⟩
          show ADCall _ _ _ _ _ _
          refine .mk [] _ (Ints_spec m.l0 m.l0).uz rfl ?_
          show ABr (decide (m.l0 = m.l0)) _ _
          refine ⟨fun _ => ?_, fun hx => absurd hx (by simp)⟩
          show AOb _ _
          refine ⟨by decide, ?_⟩
          show AOb _ _
          refine ⟨by decide, ?_⟩
          show ADCall _ _ _ _ _ _
          refine .mk [] _ (Ints_spec l.l0 l.l0).uz rfl ?_
          show ABr _ _ _
          refine ⟨fun hx => absurd hx (by simp), fun _ => ?_⟩
          show ALoop _ _ _ _
          refine .next ?_
          show ABr _ _ _
          refine ⟨fun _ => ?_, fun hx => absurd hx (by decide)⟩
          show ABr _ _ _
          refine ⟨fun hx => absurd hx (by decide), fun _ => ?_⟩
          show AOb _ _
          refine ⟨by decide, ?_⟩
          show AOb _ _
          refine ⟨by decide, ?_⟩
          show ADCall _ _ _ _ _ _
          refine .mk [] _ (Ints_spec l.l1 l.l1).uz rfl ?_
          show ABr (decide (l.l1 = l.l1)) _ _
          refine ⟨fun _ => ?_, fun hx => absurd hx (by simp)⟩
          show ABr _ _ _
          refine ⟨fun _ => ?_, fun hx => absurd hx (by decide)⟩
          show AOb _ _
          refine ⟨by decide, ?_⟩
          show AOb _ _
          refine ⟨by decide, ?_⟩
          show ADCall _ _ _ _ _ _
          refine .mk [] _ (Ints_spec l.l1 l.l1).uz rfl ?_
          show ABr (decide (l.l1 = l.l1)) _ _
          refine ⟨fun _ => ?_, fun hx => absurd hx (by simp)⟩
          show AOb _ _
          refine ⟨by decide, ?_⟩
          show AOb _ _
          refine ⟨by decide, ?_⟩
          show ADCall _ _ _ _ _ _
          refine .mk [] _ (Ints_spec m.l1 m.l1).uz rfl ?_
          show ABr (decide (m.l1 = m.l1)) _ _
          refine ⟨fun _ => ?_, fun hx => absurd hx (by simp)⟩
          show AOb _ _
          refine ⟨by decide, ?_⟩
          show AOb _ _
          refine ⟨by decide, ?_⟩
          show ADCall _ _ _ _ _ _
          refine .mk [] _ (Ints_spec l.l1 l.l1).uz rfl ?_
          show ABr _ _ _
          refine ⟨fun hx => absurd hx (by simp), fun _ => ?_⟩
          show ALoop _ _ _ _
          refine .next ?_
          show ABr _ _ _
          refine ⟨fun _ => ?_, fun hx => absurd hx (by decide)⟩
          show ABr _ _ _
          refine ⟨fun _ => ?_, fun hx => absurd hx (by decide)⟩
          show ALoop _ _ _ _
          refine .next ?_
          show ABr _ _ _
          refine ⟨fun hx => absurd hx (by decide), fun _ => ?_⟩
          show AOb _ _
          refine ⟨fun _ => by decide, ?_⟩
          show ARet _ _ _
          refine ret_bo (y := true) (x := (false == decide ((l.l2.length : Int) > 0))) ?_ ⟨rfl, rfl⟩
          rw [decide_eq_false (by omega)]
          rfl
  · have h1 : ¬ (cond (cond (cond (!true) true (decide (c < 0))) true (decide (c > 2))) true (decide (n < 0)) = false ∧ True) := h1
    show AOb (cond (cond (cond (!true) true (decide (c < 0))) true (decide (c > 2))) true (decide (n < 0)) = true) _
    refine ⟨by simp at h1 ⊢; omega, ?_⟩
    show ABr true _ _
    refine ⟨fun _ => ?_, fun hx => absurd hx (by decide)⟩
    show ARet _ _ _
    exact ret_bo (y := true) rfl ⟨rfl, rfl⟩
end Go.Abs
