/- Walks: the law RegsPuts. -/
import Derived.Test.YtlknhkocpjjkdaaWRef12
set_option linter.all false
set_option linter.unusedVariables false
set_option linter.unusedSimpArgs false
namespace Go.Abs
open Go.Proofs Go.Proofs.Ytlknhkocpjjkdaa
set_option maxRecDepth 8000

theorem Put_bad (t : Thread) (r a : Int) (h : ¬ (0 ≤ r ∧ r ≤ 3)) : Spec X 16 [] [t.tv, .int r, .int a] (Ret [] (.tup [Thread.zero.tv, .int 1])) := by
  refine spec_go X_ok Try.f16 (by kernel_rfl) (by kernel_rfl) (by kernel_rfl) fun _ _ => ⟨rfl, ?_⟩
  show ACall _ _ _ _ _ _
  refine call_ret (Get_bad t r h) rfl ?_
  show ABr _ _ _
  refine ⟨fun hb => ?_, fun hb => absurd hb (by decide)⟩
  show ARet _ _ _
  refine ⟨[], [], [Thread.zero.tv, .int 1], .cons _ _ _ _ (.agg _ _ ?_) (.cons _ _ _ _ .same .nil), .nil, rfl, ⟨rfl, rfl⟩⟩
  repeat (first | exact .nil | refine .cons _ _ _ _ (.d _) ?_ | refine .cons _ _ _ _ (.nilsl _) ?_)

theorem few_ok {t : Thread} (h : t.few = true) : t.ok := by
  simp [Thread.few] at h
  unfold Thread.ok most
  omega

theorem putsNo (t : Thread) (r a i : Int) (hr : 0 ≤ r ∧ r ≤ 3) (hi : 0 ≤ i ∧ i ≤ 3) : cond (cond (cond (!decide ((0 : Int) = 0)) true (!decide ((0 : Int) = 0))) true (cond (decide (i = r)) (!decide ((t.setReg r a).reg i = a)) false)) true (cond (!decide (i = r)) (!decide ((t.setReg r a).reg i = t.reg i)) false) = false := by
  have hr' : r = 0 ∨ r = 1 ∨ r = 2 ∨ r = 3 := by omega
  have hi' : i = 0 ∨ i = 1 ∨ i = 2 ∨ i = 3 := by omega
  rcases hr' with rfl | rfl | rfl | rfl <;> rcases hi' with rfl | rfl | rfl | rfl <;> simp [Thread.setReg, Thread.reg]

theorem putsBack (t : Thread) (r a : Int) : { t.setReg r a with r0 := t.r0, r1 := t.r1, r2 := t.r2, r3 := t.r3 } = t := by
  cases t
  unfold Thread.setReg
  repeat (first | rfl | split)

theorem putsHeld (t : Thread) (r a : Int) (hr : 0 ≤ r ∧ r ≤ 3) : cond (decide (a = 0)) true (((t.setReg r a).acc 6).any fun x => decide (x = a)) = true := by
  by_cases h : a = 0
  · simp [h]
  · have hr' : r = 0 ∨ r = 1 ∨ r = 2 ∨ r = 3 := by omega
    rw [decide_eq_false h, cond_false, List.any_eq_true]
    refine ⟨a, ?_, by simp⟩
    rcases hr' with rfl | rfl | rfl | rfl <;> simp [Thread.acc, Thread.six, Thread.setReg, h]

theorem RegsPuts_spec (t : Thread) (r a : Int) : Spec X 3 [] [t.tv, .int r, .int a] (Ret [] (.bo true)) := by
  refine spec_go X_ok Try.f3 (by kernel_rfl) (by kernel_rfl) (by kernel_rfl) fun _ _ => ⟨rfl, ?_⟩
  show ACall _ _ _ _ _ _
  refine call_ret awake12_spec rfl ?_
  show ACall _ _ _ _ _ _
  refine call_ret (Few12_spec t) rfl ?_
  show ABr (cond (!true) true (!t.few)) _ _
  refine ⟨fun _ => ?_, fun h1 => ?_⟩
  · show ARet _ _ _
    exact ret_bo (y := true) rfl ⟨rfl, rfl⟩
  · have hok : t.ok := few_ok (by simpa using h1)
    show ACall _ _ _ _ _ _
    refine call_ret (rOwn12_spec t hok) rfl ?_
    show ACall _ _ _ _ _ _
    by_cases hr : 0 ≤ r ∧ r ≤ 3
    · refine call_ret (Put_spec t r a hok hr) rfl ?_
      show ABr _ _ _
      refine ⟨fun hb => absurd hb (by decide), fun _ => ?_⟩
      show ∃ n, _
      refine ⟨5, .next ?_⟩
      show ABr _ _ _
      refine ⟨fun _ => ?_, fun hb => absurd hb (by decide)⟩
      show ACall _ _ _ _ _ _
      refine call_ret (Get_spec (t.setReg r a) 0 (by decide)) rfl ?_
      show ACall _ _ _ _ _ _
      refine call_ret (Get_spec t 0 (by decide)) rfl ?_
      show ABr _ _ _
      refine ⟨fun h => absurd (h.symm.trans (putsNo t r a 0 hr (by decide))) (by decide), fun _ => ?_⟩
      show ALoop _ _ _ _
      refine .next ?_
      show ABr _ _ _
      refine ⟨fun _ => ?_, fun hb => absurd hb (by decide)⟩
      show ACall _ _ _ _ _ _
      refine call_ret (Get_spec (t.setReg r a) 1 (by decide)) rfl ?_
      show ACall _ _ _ _ _ _
      refine call_ret (Get_spec t 1 (by decide)) rfl ?_
      show ABr _ _ _
      refine ⟨fun h => absurd (h.symm.trans (putsNo t r a 1 hr (by decide))) (by decide), fun _ => ?_⟩
      show ALoop _ _ _ _
      refine .next ?_
      show ABr _ _ _
      refine ⟨fun _ => ?_, fun hb => absurd hb (by decide)⟩
      show ACall _ _ _ _ _ _
      refine call_ret (Get_spec (t.setReg r a) 2 (by decide)) rfl ?_
      show ACall _ _ _ _ _ _
      refine call_ret (Get_spec t 2 (by decide)) rfl ?_
      show ABr _ _ _
      refine ⟨fun h => absurd (h.symm.trans (putsNo t r a 2 hr (by decide))) (by decide), fun _ => ?_⟩
      show ALoop _ _ _ _
      refine .next ?_
      show ABr _ _ _
      refine ⟨fun _ => ?_, fun hb => absurd hb (by decide)⟩
      show ACall _ _ _ _ _ _
      refine call_ret (Get_spec (t.setReg r a) 3 (by decide)) rfl ?_
      show ACall _ _ _ _ _ _
      refine call_ret (Get_spec t 3 (by decide)) rfl ?_
      show ABr _ _ _
      refine ⟨fun h => absurd (h.symm.trans (putsNo t r a 3 hr (by decide))) (by decide), fun _ => ?_⟩
      show ALoop _ _ _ _
      refine .next ?_
      show ABr _ _ _
      refine ⟨fun hb => absurd hb (by decide), fun _ => ?_⟩
      show ACall _ _ _ _ _ _
      refine call_ret (Holds_spec (t.setReg r a)) rfl ?_
      have hlen : ((t.setReg r a).acc 6).length ≤ 6 := Thread.acc_len _ _
      generalize hl : (t.setReg r a).acc 6 = l at hlen ⊢
      refine ⟨0, ALoop.inv (ι := {i : Nat // i ≤ l.length}) (fun i => ⟨[(1, .int r), (2, .int a), (17, .bo (cond (decide (a = 0)) true ((l.take i.1).any fun x => decide (x = a)))), (18, .c (.d (.sl .int l))), (19, .int i.1), (3, .c (.ptr 0 0 0)), (9, .c (.ptr 1 0 0)), (10, .c (.ptr 2 0 0))],
        [(0, .vars ((EK.enc .thread t).map .d)), (1, .vars ((EK.enc .thread t).map .d)), (2, .vars ((EK.enc .thread (t.setReg r a)).map .d))], 96⟩) (fun i => l.length - i.1) ⟨0, Nat.zero_le _⟩ ?_ ?_⟩
      · refine ⟨[(32, 0), (512, 1), (800, 2)], .cons _ _ _ .same (.cons _ _ _ .same (.cons _ _ _ (.bo_eq ?_) (.cons _ _ _ .same (.cons _ _ _ .same (.cons _ _ _ (.c _ _ (.ptr _ _ _ _ rfl)) (.cons _ _ _ (.c _ _ (.ptr _ _ _ _ rfl)) (.cons _ _ _ (.c _ _ (.ptr _ _ _ _ rfl)) .nil))))))),
          .old 0 32 _ _ _ rfl rfl (.vars _ _ (LeL_refl rfl)) (.old 1 512 _ _ _ rfl rfl (.vars _ _ (LeL_refl rfl)) (.old 2 800 _ _ _ rfl rfl (.vars _ _ (LeL_refl rfl)) .nil)), rfl⟩
        show decide (a = 0) = _
        cases decide (a = 0) <;> rfl
      · rintro ⟨i, hi⟩
        show ABr _ _ _
        refine ⟨fun (h : decide ((i : Int) < (l.length : Int)) = true) => ?_, fun (h : decide ((i : Int) < (l.length : Int)) = false) => ?_⟩
        · have hlt : i < l.length := by simpa using h
          show AOb (_ → (0 : Int) ≤ (i : Int) ∧ (i : Int) < (l.length : Int)) _
          refine ⟨fun _ => by omega, ?_⟩
          show ARound _ _ _ _
          refine ⟨⟨i + 1, hlt⟩, Nat.sub_lt_sub_left hlt (Nat.lt_succ_self i), [(0, 0), (1, 1), (2, 2)], .cons _ _ _ .same (.cons _ _ _ .same (.cons _ _ _ (.bo_eq ?_) (.cons _ _ _ .same (.cons _ _ _ (.int_eq (by rw [wrap64] <;> simp <;> omega)) (.cons _ _ _ (.c _ _ (.ptr _ _ _ _ rfl)) (.cons _ _ _ (.c _ _ (.ptr _ _ _ _ rfl)) (.cons _ _ _ (.c _ _ (.ptr _ _ _ _ rfl)) .nil))))))),
            .old 0 0 _ _ _ rfl rfl (.vars _ _ (LeL_refl rfl)) (.old 1 1 _ _ _ rfl rfl (.vars _ _ (LeL_refl rfl)) (.old 2 2 _ _ _ rfl rfl (.vars _ _ (LeL_refl rfl)) .nil)), rfl⟩
          show cond (cond (decide (a = 0)) true ((l.take i).any fun x => decide (x = a))) true (decide (l.getD i 0 = a)) = _
          rw [List.take_add_one, List.any_append, List.getElem?_eq_getElem hlt, List.getD_eq_getElem?_getD, List.getElem?_eq_getElem hlt]
          cases decide (a = 0) <;> simp
        · have hge : i = l.length := by simp at h; omega
          have hheld : cond (decide (a = 0)) true ((l.take i).any fun x => decide (x = a)) = true := by
            rw [hge, List.take_length, ← hl]
            exact putsHeld t r a hr
          show AIf _ _ _
          refine ⟨fun _ => ?_, fun hn => absurd ⟨hheld, trivial⟩ hn⟩
          show ACall _ _ _ _ _ _
          refine call_ret (rSame12_spec { t.setReg r a with r0 := t.r0, r1 := t.r1, r2 := t.r2, r3 := t.r3 } t) rfl ?_
          rw [putsBack, decide_eq_true rfl]
          show AIf _ _ _
          refine ⟨fun _ => ?_, fun hn => absurd ⟨rfl, trivial⟩ hn⟩
          show ACall _ _ _ _ _ _
          refine call_ret (rSame12_spec t t) rfl ?_
          rw [decide_eq_true rfl]
          show ARet _ _ _
          refine ret_bo (x := cond (cond true (decide (r ≥ 0)) false) (decide (r ≤ 3)) false) ?_ ⟨rfl, rfl⟩
          simp
          omega
    · refine call_ret (Put_bad t r a hr) rfl ?_
      show ABr _ _ _
      refine ⟨fun _ => ?_, fun hb => absurd hb (by decide)⟩
      show ARet _ _ _
      refine ret_bo (x := cond (decide ((1 : Int) = 1)) (cond (decide (r < 0)) true (decide (r > 3))) false) ?_ ⟨rfl, rfl⟩
      simp
      omega
end Go.Abs
