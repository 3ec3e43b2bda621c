/- Walks: the law ListsMoved. -/
import Derived.Test.YtlknhkocpjjkdaaWTells6
set_option linter.all false
set_option linter.unusedVariables false
set_option linter.unusedSimpArgs false
namespace Go.Abs
open Go.Proofs Go.Proofs.Ytlknhkocpjjkdaa
set_option maxRecDepth 8000

theorem flats_one (l : Lists) : flats [l] = l.flat := by simp [flats]
theorem flat_len (l : Lists) : l.flat.length = l.l0.length + l.l1.length + l.l2.length := by simp [Lists.flat]; omega

def mvT (x : List Int) (n : Int) : List Int := x.take (leftOf x.length n)
def mvR (x : List Int) (n : Int) : List Int := (x.drop (leftOf x.length n)).reverse
theorem mvT_len (x : List Int) (n : Int) : (mvT x n).length = leftOf x.length n := by unfold mvT leftOf; simp
theorem mvR_len (x : List Int) (n : Int) : (mvR x n).length = x.length - leftOf x.length n := by unfold mvR; simp

theorem back_eq (x : List Int) (n : Int) : mvT x n ++ mvR (mvR x n) n = x := by
  unfold mvT mvR
  have e : leftOf ((x.drop (leftOf x.length n)).reverse.length) n = 0 := by
    rw [List.length_reverse, List.length_drop]
    unfold leftOf
    omega
  rw [e, List.drop_zero, List.reverse_reverse, List.take_append_drop]
theorem gone_eq (x : List Int) (n : Int) : mvT (mvR x n) n = [] := by
  unfold mvT mvR
  have e : leftOf ((x.drop (leftOf x.length n)).reverse.length) n = 0 := by
    rw [List.length_reverse, List.length_drop]
    unfold leftOf
    omega
  rw [e, List.take_zero]

theorem ListsMoved_spec (l : Lists) (hbb : l.l0.length ≤ 1048576 ∧ l.l1.length ≤ 1048576 ∧ l.l2.length ≤ 1048576) (c : Int) (n : Int) (hn : (Lit.int .i64 n).wf = true) : Spec X 8 [] [l.tv, .int c, .int n] (Ret [] (.bo true)) := by
  refine spec_go X_ok Try.f8 (by kernel_rfl) (by kernel_rfl) (by kernel_rfl) fun _ _ => ⟨rfl, ?_⟩
  have hfl := flat_len l
  have hb : l.flat.length ≤ most := by unfold most; omega
  have hnn := (wf_le hn).2
  show ACall _ _ _ _ _ _
  refine call_ret awake6_spec rfl ?_
  show AIf _ _ _
  refine ⟨fun h1 => ?_, fun h1 => ?_⟩
  · have h1 : cond (cond (cond (!true) true (decide (c < 0))) true (decide (c > 2))) true (decide (n < 0)) = false ∧ True := h1
    simp at h1
    show ACall _ _ _ _ _ _
    refine .mk _ (All_spec [l] (by rw [flats_one]; exact hb)) ?_
    rintro H r ⟨rfl, rfl⟩ _ _
    refine ⟨.inr ⟨rfl, rfl⟩, ?_⟩
    show ABr (decide (((flats [l]).length : Int) > 120)) _ _
    refine ⟨fun _ => ?_, fun h2 => ?_⟩
    · show ARet _ _ _
      exact ret_bo (y := true) rfl ⟨rfl, rfl⟩
    · rw [flats_one, hfl] at h2
      simp at h2
      have hok : l.ok := by unfold Lists.ok most; omega
      have hz : Lists.zero.ok := ⟨by decide, by decide, by decide⟩
      have hc : c = 0 ∨ c = 1 ∨ c = 2 := by omega
      rcases hc with rfl | rfl | rfl
      · have hx : l.l0.length ≤ 120 := by omega
        have hlf : leftOf l.l0.length n ≤ l.l0.length := by unfold leftOf; omega
        have hoka : (l.set_ 0 (mvT l.l0 n)).ok := by
          obtain ⟨q0, q1, q2⟩ := hok
          refine ⟨?_, ?_, ?_⟩ <;> first | assumption | (show (mvT l.l0 n).length ≤ most; unfold most; (try rw [mvT_len]); (try rw [mvR_len]); omega)
        have hokb : (Lists.zero.set_ 0 (mvR l.l0 n)).ok := by
          obtain ⟨q0, q1, q2⟩ := hz
          refine ⟨?_, ?_, ?_⟩ <;> first | assumption | (show (mvR l.l0 n).length ≤ most; unfold most; (try rw [mvT_len]); (try rw [mvR_len]); omega)
        show ACall _ _ _ _ _ _
        refine call_ret ((Move_spec l Lists.zero 0 n (by decide) (by omega) hnn hok hz (by show l.l0.length + 0 ≤ most; unfold most; omega)).args (.cons _ _ _ _ (.refl _) (.cons _ _ _ _ (.lists rfl) (.cons _ _ _ _ (.refl _) (.cons _ _ _ _ (.refl _) .nil))))) rfl ?_
        show ACall _ _ _ _ _ _
        refine call_ret (Move_spec (Lists.zero.set_ 0 (mvR l.l0 n)) (l.set_ 0 (mvT l.l0 n)) 0 n (by decide) (by omega) hnn hokb hoka (by show (mvR l.l0 n).length + (mvT l.l0 n).length ≤ most; unfold most; (try rw [mvT_len]); (try rw [mvR_len]); omega)) rfl ?_
        show AOb _ _
        refine ⟨by decide, ?_⟩
        show ABr (decide (n > (l.l0.length : Int))) _ _
        have rest : ∀ many : Int, many = ((mvR l.l0 n).length : Int) → (((mvT l.l0 n).length : Int) = IntKind.i64.wrap ((l.l0.length : Int) - many)) := by
          intro many hm
          rw [hm, mvR_len, mvT_len, wrap64 (by omega) (by omega)]
          omega
        refine ⟨fun h3 => ?_, fun h3 => ?_⟩
        · have hmany : (l.l0.length : Int) = ((mvR l.l0 n).length : Int) := by
            simp at h3
            rw [mvR_len]
            unfold leftOf
            omega
          show AOb _ _
          refine ⟨by decide, ?_⟩
          show ACall _ _ _ _ _ _
          refine call_ret (rSame_spec (l.set_ 0 (mvT l.l0 n ++ mvR (mvR l.l0 n) n)) l) rfl ?_
          show ACall _ _ _ _ _ _
          refine call_ret ((rSame_spec (Lists.zero.set_ 0 (mvT (mvR l.l0 n) n)) Lists.zero).args (.cons _ _ _ _ (.refl _) (.cons _ _ _ _ (.lists rfl) .nil))) rfl ?_
          have b1 : l.set_ 0 (mvT l.l0 n ++ mvR (mvR l.l0 n) n) = l := by
            rw [back_eq]; rfl
          have b2 : Lists.zero.set_ 0 (mvT (mvR l.l0 n) n) = Lists.zero := by
            rw [gone_eq]; rfl
          rw [b1, b2, decide_eq_true rfl, decide_eq_true rfl]
          show ABr _ _ _
          refine ⟨fun _ => ?_, fun hx => absurd hx (by decide)⟩
          show ABr _ _ _
          refine ⟨fun _ => ?_, fun hx => absurd hx (by decide)⟩
          show AOb _ _
          refine ⟨by decide, ?_⟩
          show ABr _ _ _
          refine ⟨fun _ => ?_, fun hx => absurd hx ?_⟩
          rotate_left
          · simp only [Bool.not_eq_false]
            exact decide_eq_true hmany.symm
          show AOb _ _
          refine ⟨by decide, ?_⟩
          show AOb _ _
          refine ⟨by decide, ?_⟩
          show ABr _ _ _
          refine ⟨fun _ => ?_, fun hx => absurd hx ?_⟩
          rotate_left
          · simp only [Bool.not_eq_false]
            exact decide_eq_true (rest _ hmany)
          show ABr true _ _
          refine ⟨fun _ => ?_, fun hx => absurd hx (by decide)⟩
          show ARet _ _ _
          exact ret_bo (y := true) rfl ⟨rfl, rfl⟩
        · have hmany : n = ((mvR l.l0 n).length : Int) := by
            simp at h3
            rw [mvR_len]
            unfold leftOf
            omega
          show ACall _ _ _ _ _ _
          refine call_ret (rSame_spec (l.set_ 0 (mvT l.l0 n ++ mvR (mvR l.l0 n) n)) l) rfl ?_
          show ACall _ _ _ _ _ _
          refine call_ret ((rSame_spec (Lists.zero.set_ 0 (mvT (mvR l.l0 n) n)) Lists.zero).args (.cons _ _ _ _ (.refl _) (.cons _ _ _ _ (.lists rfl) .nil))) rfl ?_
          have b1 : l.set_ 0 (mvT l.l0 n ++ mvR (mvR l.l0 n) n) = l := by
            rw [back_eq]; rfl
          have b2 : Lists.zero.set_ 0 (mvT (mvR l.l0 n) n) = Lists.zero := by
            rw [gone_eq]; rfl
          rw [b1, b2, decide_eq_true rfl, decide_eq_true rfl]
          show ABr _ _ _
          refine ⟨fun _ => ?_, fun hx => absurd hx (by decide)⟩
          show ABr _ _ _
          refine ⟨fun _ => ?_, fun hx => absurd hx (by decide)⟩
          show AOb _ _
          refine ⟨by decide, ?_⟩
          show ABr _ _ _
          refine ⟨fun _ => ?_, fun hx => absurd hx ?_⟩
          rotate_left
          · simp only [Bool.not_eq_false]
            exact decide_eq_true hmany.symm
          show AOb _ _
          refine ⟨by decide, ?_⟩
          show AOb _ _
          refine ⟨by decide, ?_⟩
          show ABr _ _ _
          refine ⟨fun _ => ?_, fun hx => absurd hx ?_⟩
          rotate_left
          · simp only [Bool.not_eq_false]
            exact decide_eq_true (rest _ hmany)
          show ABr true _ _
          refine ⟨fun _ => ?_, fun hx => absurd hx (by decide)⟩
          show ARet _ _ _
          exact ret_bo (y := true) rfl ⟨rfl, rfl⟩
      · have hx : l.l1.length ≤ 120 := by omega
        have hlf : leftOf l.l1.length n ≤ l.l1.length := by unfold leftOf; omega
        have hoka : (l.set_ 1 (mvT l.l1 n)).ok := by
          obtain ⟨q0, q1, q2⟩ := hok
          refine ⟨?_, ?_, ?_⟩ <;> first | assumption | (show (mvT l.l1 n).length ≤ most; unfold most; (try rw [mvT_len]); (try rw [mvR_len]); omega)
        have hokb : (Lists.zero.set_ 1 (mvR l.l1 n)).ok := by
          obtain ⟨q0, q1, q2⟩ := hz
          refine ⟨?_, ?_, ?_⟩ <;> first | assumption | (show (mvR l.l1 n).length ≤ most; unfold most; (try rw [mvT_len]); (try rw [mvR_len]); omega)
        show ACall _ _ _ _ _ _
        refine call_ret ((Move_spec l Lists.zero 1 n (by decide) (by omega) hnn hok hz (by show l.l1.length + 0 ≤ most; unfold most; omega)).args (.cons _ _ _ _ (.refl _) (.cons _ _ _ _ (.lists rfl) (.cons _ _ _ _ (.refl _) (.cons _ _ _ _ (.refl _) .nil))))) rfl ?_
        show ACall _ _ _ _ _ _
        refine call_ret (Move_spec (Lists.zero.set_ 1 (mvR l.l1 n)) (l.set_ 1 (mvT l.l1 n)) 1 n (by decide) (by omega) hnn hokb hoka (by show (mvR l.l1 n).length + (mvT l.l1 n).length ≤ most; unfold most; (try rw [mvT_len]); (try rw [mvR_len]); omega)) rfl ?_
        show AOb _ _
        refine ⟨by decide, ?_⟩
        show ABr (decide (n > (l.l1.length : Int))) _ _
        have rest : ∀ many : Int, many = ((mvR l.l1 n).length : Int) → (((mvT l.l1 n).length : Int) = IntKind.i64.wrap ((l.l1.length : Int) - many)) := by
          intro many hm
          rw [hm, mvR_len, mvT_len, wrap64 (by omega) (by omega)]
          omega
        refine ⟨fun h3 => ?_, fun h3 => ?_⟩
        · have hmany : (l.l1.length : Int) = ((mvR l.l1 n).length : Int) := by
            simp at h3
            rw [mvR_len]
            unfold leftOf
            omega
          show AOb _ _
          refine ⟨by decide, ?_⟩
          show ACall _ _ _ _ _ _
          refine call_ret (rSame_spec (l.set_ 1 (mvT l.l1 n ++ mvR (mvR l.l1 n) n)) l) rfl ?_
          show ACall _ _ _ _ _ _
          refine call_ret ((rSame_spec (Lists.zero.set_ 1 (mvT (mvR l.l1 n) n)) Lists.zero).args (.cons _ _ _ _ (.refl _) (.cons _ _ _ _ (.lists rfl) .nil))) rfl ?_
          have b1 : l.set_ 1 (mvT l.l1 n ++ mvR (mvR l.l1 n) n) = l := by
            rw [back_eq]; rfl
          have b2 : Lists.zero.set_ 1 (mvT (mvR l.l1 n) n) = Lists.zero := by
            rw [gone_eq]; rfl
          rw [b1, b2, decide_eq_true rfl, decide_eq_true rfl]
          show ABr _ _ _
          refine ⟨fun _ => ?_, fun hx => absurd hx (by decide)⟩
          show ABr _ _ _
          refine ⟨fun _ => ?_, fun hx => absurd hx (by decide)⟩
          show AOb _ _
          refine ⟨by decide, ?_⟩
          show ABr _ _ _
          refine ⟨fun _ => ?_, fun hx => absurd hx ?_⟩
          rotate_left
          · simp only [Bool.not_eq_false]
            exact decide_eq_true hmany.symm
          show AOb _ _
          refine ⟨by decide, ?_⟩
          show AOb _ _
          refine ⟨by decide, ?_⟩
          show ABr _ _ _
          refine ⟨fun _ => ?_, fun hx => absurd hx ?_⟩
          rotate_left
          · simp only [Bool.not_eq_false]
            exact decide_eq_true (rest _ hmany)
          show ABr true _ _
          refine ⟨fun _ => ?_, fun hx => absurd hx (by decide)⟩
          show ARet _ _ _
          exact ret_bo (y := true) rfl ⟨rfl, rfl⟩
        · have hmany : n = ((mvR l.l1 n).length : Int) := by
            simp at h3
            rw [mvR_len]
            unfold leftOf
            omega
          show ACall _ _ _ _ _ _
          refine call_ret (rSame_spec (l.set_ 1 (mvT l.l1 n ++ mvR (mvR l.l1 n) n)) l) rfl ?_
          show ACall _ _ _ _ _ _
          refine call_ret ((rSame_spec (Lists.zero.set_ 1 (mvT (mvR l.l1 n) n)) Lists.zero).args (.cons _ _ _ _ (.refl _) (.cons _ _ _ _ (.lists rfl) .nil))) rfl ?_
          have b1 : l.set_ 1 (mvT l.l1 n ++ mvR (mvR l.l1 n) n) = l := by
            rw [back_eq]; rfl
          have b2 : Lists.zero.set_ 1 (mvT (mvR l.l1 n) n) = Lists.zero := by
            rw [gone_eq]; rfl
          rw [b1, b2, decide_eq_true rfl, decide_eq_true rfl]
          show ABr _ _ _
          refine ⟨fun _ => ?_, fun hx => absurd hx (by decide)⟩
          show ABr _ _ _
          refine ⟨fun _ => ?_, fun hx => absurd hx (by decide)⟩
          show AOb _ _
          refine ⟨by decide, ?_⟩
          show ABr _ _ _
          refine ⟨fun _ => ?_, fun hx => absurd hx ?_⟩
          rotate_left
          · simp only [Bool.not_eq_false]
            exact decide_eq_true hmany.symm
          show AOb _ _
          refine ⟨by decide, ?_⟩
          show AOb _ _
          refine ⟨by decide, ?_⟩
          show ABr _ _ _
          refine ⟨fun _ => ?_, fun hx => absurd hx ?_⟩
          rotate_left
          · simp only [Bool.not_eq_false]
            exact decide_eq_true (rest _ hmany)
          show ABr true _ _
          refine ⟨fun _ => ?_, fun hx => absurd hx (by decide)⟩
          show ARet _ _ _
          exact ret_bo (y := true) rfl ⟨rfl, rfl⟩
      · have hx : l.l2.length ≤ 120 := by omega
        have hlf : leftOf l.l2.length n ≤ l.l2.length := by unfold leftOf; omega
        have hoka : (l.set_ 2 (mvT l.l2 n)).ok := by
          obtain ⟨q0, q1, q2⟩ := hok
          refine ⟨?_, ?_, ?_⟩ <;> first | assumption | (show (mvT l.l2 n).length ≤ most; unfold most; (try rw [mvT_len]); (try rw [mvR_len]); omega)
        have hokb : (Lists.zero.set_ 2 (mvR l.l2 n)).ok := by
          obtain ⟨q0, q1, q2⟩ := hz
          refine ⟨?_, ?_, ?_⟩ <;> first | assumption | (show (mvR l.l2 n).length ≤ most; unfold most; (try rw [mvT_len]); (try rw [mvR_len]); omega)
        show ACall _ _ _ _ _ _
        refine call_ret ((Move_spec l Lists.zero 2 n (by decide) (by omega) hnn hok hz (by show l.l2.length + 0 ≤ most; unfold most; omega)).args (.cons _ _ _ _ (.refl _) (.cons _ _ _ _ (.lists rfl) (.cons _ _ _ _ (.refl _) (.cons _ _ _ _ (.refl _) .nil))))) rfl ?_
        show ACall _ _ _ _ _ _
        refine call_ret (Move_spec (Lists.zero.set_ 2 (mvR l.l2 n)) (l.set_ 2 (mvT l.l2 n)) 2 n (by decide) (by omega) hnn hokb hoka (by show (mvR l.l2 n).length + (mvT l.l2 n).length ≤ most; unfold most; (try rw [mvT_len]); (try rw [mvR_len]); omega)) rfl ?_
        show AOb _ _
        refine ⟨by decide, ?_⟩
        show ABr (decide (n > (l.l2.length : Int))) _ _
        have rest : ∀ many : Int, many = ((mvR l.l2 n).length : Int) → (((mvT l.l2 n).length : Int) = IntKind.i64.wrap ((l.l2.length : Int) - many)) := by
          intro many hm
          rw [hm, mvR_len, mvT_len, wrap64 (by omega) (by omega)]
          omega
        refine ⟨fun h3 => ?_, fun h3 => ?_⟩
        · have hmany : (l.l2.length : Int) = ((mvR l.l2 n).length : Int) := by
            simp at h3
            rw [mvR_len]
            unfold leftOf
            omega
          show AOb _ _
          refine ⟨by decide, ?_⟩
          show ACall _ _ _ _ _ _
          refine call_ret (rSame_spec (l.set_ 2 (mvT l.l2 n ++ mvR (mvR l.l2 n) n)) l) rfl ?_
          show ACall _ _ _ _ _ _
          refine call_ret ((rSame_spec (Lists.zero.set_ 2 (mvT (mvR l.l2 n) n)) Lists.zero).args (.cons _ _ _ _ (.refl _) (.cons _ _ _ _ (.lists rfl) .nil))) rfl ?_
          have b1 : l.set_ 2 (mvT l.l2 n ++ mvR (mvR l.l2 n) n) = l := by
            rw [back_eq]; rfl
          have b2 : Lists.zero.set_ 2 (mvT (mvR l.l2 n) n) = Lists.zero := by
            rw [gone_eq]; rfl
          rw [b1, b2, decide_eq_true rfl, decide_eq_true rfl]
          show ABr _ _ _
          refine ⟨fun _ => ?_, fun hx => absurd hx (by decide)⟩
          show ABr _ _ _
          refine ⟨fun _ => ?_, fun hx => absurd hx (by decide)⟩
          show AOb _ _
          refine ⟨by decide, ?_⟩
          show ABr _ _ _
          refine ⟨fun _ => ?_, fun hx => absurd hx ?_⟩
          rotate_left
          · simp only [Bool.not_eq_false]
            exact decide_eq_true hmany.symm
          show AOb _ _
          refine ⟨by decide, ?_⟩
          show AOb _ _
          refine ⟨by decide, ?_⟩
          show ABr _ _ _
          refine ⟨fun _ => ?_, fun hx => absurd hx ?_⟩
          rotate_left
          · simp only [Bool.not_eq_false]
            exact decide_eq_true (rest _ hmany)
          show ABr true _ _
          refine ⟨fun _ => ?_, fun hx => absurd hx (by decide)⟩
          show ARet _ _ _
          exact ret_bo (y := true) rfl ⟨rfl, rfl⟩
        · have hmany : n = ((mvR l.l2 n).length : Int) := by
            simp at h3
            rw [mvR_len]
            unfold leftOf
            omega
          show ACall _ _ _ _ _ _
          refine call_ret (rSame_spec (l.set_ 2 (mvT l.l2 n ++ mvR (mvR l.l2 n) n)) l) rfl ?_
          show ACall _ _ _ _ _ _
          refine call_ret ((rSame_spec (Lists.zero.set_ 2 (mvT (mvR l.l2 n) n)) Lists.zero).args (.cons _ _ _ _ (.refl _) (.cons _ _ _ _ (.lists rfl) .nil))) rfl ?_
          have b1 : l.set_ 2 (mvT l.l2 n ++ mvR (mvR l.l2 n) n) = l := by
            rw [back_eq]; rfl
          have b2 : Lists.zero.set_ 2 (mvT (mvR l.l2 n) n) = Lists.zero := by
            rw [gone_eq]; rfl
          rw [b1, b2, decide_eq_true rfl, decide_eq_true rfl]
          show ABr _ _ _
          refine ⟨fun _ => ?_, fun hx => absurd hx (by decide)⟩
          show ABr _ _ _
          refine ⟨fun _ => ?_, fun hx => absurd hx (by decide)⟩
          show AOb _ _
          refine ⟨by decide, ?_⟩
          show ABr _ _ _
          refine ⟨fun _ => ?_, fun hx => absurd hx ?_⟩
          rotate_left
          · simp only [Bool.not_eq_false]
            exact decide_eq_true hmany.symm
          show AOb _ _
          refine ⟨by decide, ?_⟩
          show AOb _ _
          refine ⟨by decide, ?_⟩
          show ABr _ _ _
          refine ⟨fun _ => ?_, fun hx => absurd hx ?_⟩
          rotate_left
          · simp only [Bool.not_eq_false]
            exact decide_eq_true (rest _ hmany)
          show ABr true _ _
          refine ⟨fun _ => ?_, fun hx => absurd hx (by decide)⟩
          show ARet _ _ _
          exact ret_bo (y := true) rfl ⟨rfl, rfl⟩
  · have h1 : ¬ (cond (cond (cond (!true) true (decide (c < 0))) true (decide (c > 2))) true (decide (n < 0)) = false ∧ True) := h1
    show AOb (cond (cond (cond (!true) true (decide (c < 0))) true (decide (c > 2))) true (decide (n < 0)) = true) _
    refine ⟨by simp at h1 ⊢; omega, ?_⟩
    show ABr true _ _
    refine ⟨fun _ => ?_, fun hx => absurd hx (by decide)⟩
    show ARet _ _ _
    exact ret_bo (y := true) rfl ⟨rfl, rfl⟩
end Go.Abs
