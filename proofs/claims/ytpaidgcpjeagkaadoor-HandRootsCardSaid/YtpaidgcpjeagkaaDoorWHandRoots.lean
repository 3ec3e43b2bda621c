/- Walks: what has answered in Roots has nothing white in its registers. -/
import Derived.Test.YtpaidgcpjeagkaaDoorWHandOnce
set_option linter.all false
set_option linter.unusedVariables false
set_option linter.unusedSimpArgs false
namespace Go.Abs
open Go.Proofs Go.Proofs.YtpaidgcpjeagkaaDoor
set_option maxRecDepth 8000

/-- So many answers, and how it stands behind them. -/
structure RootsAt (g : Hp) (c : Col) (t : Thread) (n : Nat) (k : Hp) (d : Col) (u : Thread) : Prop where
  ans : Ans g c t n k d u
  roots : Roots c n k u

theorem few_ans {g k : Hp} (h : fewH k = fewH g) (hf : fewH g = true) : k.light ∧ k.small := ⟨few_light (h.trans hf), few_small (h.trans hf)⟩
theorem ok_ans {t u : Thread} (h : SameT t u) (hk : t.ok) : u.ok := by
  obtain ⟨h1, h2, h3, h4⟩ := hk
  exact ⟨by rw [h.ops]; exact h1, by rw [h.cache]; exact h2, by rw [h.cache]; exact h3, by rw [h.cache]; exact h4⟩

set_option maxHeartbeats 2000000 in
theorem HandRoots_spec (g : Hp) (c : Col) (t : Thread) : Spec X 5 [] [g.tv, c.tv, t.tv] (Ret [] (.bo true)) := by
  refine spec_go X_ok Tryd.f5 (by kernel_rfl) (by kernel_rfl) (by kernel_rfl) fun hb hH => ⟨rfl, ?_⟩
  show ACall _ _ _ _ _ _
  refine call_ret (awake15_spec) rfl ?_
  show ACall _ _ _ _ _ _
  refine call_ret (few15_spec g c t) rfl ?_
  by_cases hq : few15 g c t = true ∧ 3 ≤ c.phase ∧ t.root = 0
  · obtain ⟨hf, hp, hr⟩ := hq
    rw [hf]
    obtain ⟨f1, f2, f3, f4, f5⟩ := few15_of hf
    have hc : (bif (bif (bif !true then true else !true) then true else decide (c.phase < 3)) then true else !decide (t.root = 0)) = false := by
      rw [decide_eq_false (by omega), decide_eq_true hr]
      rfl
    show AIf ((bif (bif (bif !true then true else !true) then true else decide (c.phase < 3)) then true else !decide (t.root = 0)) = false ∧ True) _ _
    refine ⟨fun _ => ?_, fun h => absurd ⟨hc, trivial⟩ h⟩
    show ACall _ _ _ _ _ _
    refine call_ret (Asked_spec c t) rfl ?_
    show ABr (!askedB c t) _ _
    refine ⟨fun h => ?_, fun h => ?_⟩
    · show ARet _ _ _
      exact ret_d rfl ⟨rfl, rfl⟩
    · have ha : askedB c t = true := by simpa using h
      show ∃ n, _
      refine ⟨0, ALoop.inv (ι := {q : Nat × Hp × Col × Thread // q.1 ≤ 6 ∧ RootsAt g c t q.1 q.2.1 q.2.2.1 q.2.2.2}) (fun q => ⟨[(3, .c (.ptr 0 0 0)), (4, .c (.ptr 1 0 0)), (5, .c (.ptr 2 0 0)), (9, .int (q.1.1))], [(0, .vars (q.1.2.1.enc.map .d)), (1, .vars (q.1.2.2.1.enc.map .d)), (2, .vars ((EK.enc .thread q.1.2.2.2).map .d))], 128⟩) (fun q => 6 - q.1.1) ⟨(0, g, c, t), by simp, .start g c t, .start ha hr⟩ ?_ ?_⟩
      · exact ⟨[(32, 0), (64, 1), (96, 2)], .cons _ _ _ (.c _ _ (.ptr _ _ _ _ rfl)) (.cons _ _ _ (.c _ _ (.ptr _ _ _ _ rfl)) (.cons _ _ _ (.c _ _ (.ptr _ _ _ _ rfl)) (.cons _ _ _ .same .nil))), .old 0 32 _ _ _ rfl rfl (.vars _ _ (LeL_refl rfl)) (.old 1 64 _ _ _ rfl rfl (.vars _ _ (LeL_refl rfl)) (.old 2 96 _ _ _ rfl rfl (.vars _ _ (LeL_refl rfl)) .nil)), rfl⟩
      rintro ⟨⟨n, k, d, u⟩, hn, hA, hR⟩
      have hn : n ≤ 6 := hn
      obtain ⟨k1, k2⟩ := few_ans hA.few f1
      have k3 : d.work.length < most := by have := hA.work; unfold most; simp only [] at this; omega
      have k4 := ok_ans hA.thr f5
      show ABr (decide ((n : Int) < 6)) _ _
      refine ⟨fun h => ?_, fun h => ?_⟩
      · have hlt : n < 6 := by have := of_decide_eq_true h; omega
        have wi : IntKind.i64.wrap ((n : Int) + 1) = ((n + 1 : Nat) : Int) := wrapP (i := n) (by unfold maxN; omega)
        show ACall _ _ _ _ _ _
        refine call_ret (Answer_spec k d u k1 k2 k3 k4) rfl ?_
        show ARound _ _ _ _
        exact ⟨⟨(n + 1, ansG k d u, ansC k d u, ansT d u), by show n + 1 ≤ 6; omega, hA.step, hR.step hA.col hp⟩, (by show 6 - (n + 1) < 6 - n; omega), [(0, 0), (1, 1), (2, 2)], .cons _ _ _ (.c _ _ (.ptr _ _ _ _ rfl)) (.cons _ _ _ (.c _ _ (.ptr _ _ _ _ rfl)) (.cons _ _ _ (.c _ _ (.ptr _ _ _ _ rfl)) (.cons _ _ _ (.int_eq wi) .nil))), .old 0 0 _ _ _ rfl rfl (.vars _ _ (LeL_refl rfl)) (.old 1 1 _ _ _ rfl rfl (.vars _ _ (LeL_refl rfl)) (.old 2 2 _ _ _ rfl rfl (.vars _ _ (LeL_refl rfl)) .nil)), rfl⟩
      · have h6 : n = 6 := by have := of_decide_eq_false h; omega
        subst h6
        obtain ⟨e1, e2, hw⟩ := Roots.last hR
        have hwh : ∀ r, 0 ≤ r → r ≤ 3 → whiteH k d (u.reg r) = false := fun r h1 h2 => by
          have := hw r h1 h2
          rw [← hA.col.at] at this
          exact decide_eq_false this
        show ∃ n, _
        refine ⟨5, ?_⟩
        show ALoop _ _ _ _
        refine .next ?_
        show ABr _ _ _
        refine ⟨fun _ => ?_, fun h => absurd h (by decide)⟩
        show AOb _ _
        refine ⟨by decide, ?_⟩
        show ADCall _ _ _ _ _ _
        refine .mk _ _ (White_spec k d (u.r0) k1) rfl ?_
        rw [show whiteH k d u.r0 = false from hwh 0 (by decide) (by decide)]
        show ABr _ _ _
        refine ⟨fun h => absurd h (by decide), fun _ => ?_⟩
        show ALoop _ _ _ _
        refine .next ?_
        show ABr _ _ _
        refine ⟨fun _ => ?_, fun h => absurd h (by decide)⟩
        show AOb _ _
        refine ⟨by decide, ?_⟩
        show ADCall _ _ _ _ _ _
        refine .mk _ _ (White_spec k d (u.r1) k1) rfl ?_
        rw [show whiteH k d u.r1 = false from hwh 1 (by decide) (by decide)]
        show ABr _ _ _
        refine ⟨fun h => absurd h (by decide), fun _ => ?_⟩
        show ALoop _ _ _ _
        refine .next ?_
        show ABr _ _ _
        refine ⟨fun _ => ?_, fun h => absurd h (by decide)⟩
        show AOb _ _
        refine ⟨by decide, ?_⟩
        show ADCall _ _ _ _ _ _
        refine .mk _ _ (White_spec k d (u.r2) k1) rfl ?_
        rw [show whiteH k d u.r2 = false from hwh 2 (by decide) (by decide)]
        show ABr _ _ _
        refine ⟨fun h => absurd h (by decide), fun _ => ?_⟩
        show ALoop _ _ _ _
        refine .next ?_
        show ABr _ _ _
        refine ⟨fun _ => ?_, fun h => absurd h (by decide)⟩
        show AOb _ _
        refine ⟨by decide, ?_⟩
        show ADCall _ _ _ _ _ _
        refine .mk _ _ (White_spec k d (u.r3) k1) rfl ?_
        rw [show whiteH k d u.r3 = false from hwh 3 (by decide) (by decide)]
        show ABr _ _ _
        refine ⟨fun h => absurd h (by decide), fun _ => ?_⟩
        show ALoop _ _ _ _
        refine .next ?_
        show ABr _ _ _
        refine ⟨fun h => absurd h (by decide), fun _ => ?_⟩
        show ARet _ _ _
        refine ret_bo (x := bif decide (u.stage = 3) then decide (u.root = 0) else false) ?_ ⟨rfl, rfl⟩
        rw [decide_eq_true e1, decide_eq_true e2]
        rfl
  · have hc : (bif (bif (bif !true then true else !few15 g c t) then true else decide (c.phase < 3)) then true else !decide (t.root = 0)) = true := by
      cases hf : few15 g c t with
      | false => rfl
      | true =>
        by_cases hp : c.phase < 3
        · rw [decide_eq_true hp]; rfl
        · rw [decide_eq_false hp, decide_eq_false (fun k => hq ⟨hf, by omega, k⟩)]; rfl
    show AIf ((bif (bif (bif !true then true else !few15 g c t) then true else decide (c.phase < 3)) then true else !decide (t.root = 0)) = false ∧ True) _ _
    refine ⟨fun h => absurd (hc.symm.trans h.1) (by decide), fun _ => ?_⟩
    show AOb _ _
    refine ⟨by exact hc, ?_⟩
    show ABr _ _ _
    refine ⟨fun _ => ?_, fun h => absurd h (by decide)⟩
    show ARet _ _ _
    exact ret_d rfl ⟨rfl, rfl⟩
end Go.Abs
