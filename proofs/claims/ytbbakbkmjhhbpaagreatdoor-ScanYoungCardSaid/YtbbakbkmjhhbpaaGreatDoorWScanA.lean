/- Walks: the example of going through cards; what a step changes. -/
import Derived.Test.YtbbakbkmjhhbpaaGreatDoorWScan
import Derived.Test.YtbbakbkmjhhbpaaGreatDoorWScanE
import Derived.Test.YtbbakbkmjhhbpaaGreatDoorWRef11
import Derived.Test.YtbbakbkmjhhbpaaGreatDoorWSame07
set_option linter.all false
set_option linter.unusedVariables false
set_option linter.unusedSimpArgs false
namespace Go.Abs
open Go.Proofs Go.Proofs.YtbbakbkmjhhbpaaGreatDoor
set_option maxRecDepth 8000

def snN (g : Hp) (c : Col) : Nat → Hp × Col
  | 0 => (g, c)
  | n + 1 => scanS (snN g c n).1 (snN g c n).2
theorem snN_sk (g : Hp) (c : Col) (h : c.work.length ≤ 100) : ∀ n, SK g (snN g c n).1 c (snN g c n).2
  | 0 => .refl g c h
  | n + 1 => (snN_sk g c h n).step (scan_step _ _).keep

def g17 : Hp := ⟨[35, 0, 24, 0, 0, 0, 0, 0, 41, 0, 0, 0, 0, 0, 0, 0], [⟨1, 2⟩], ⟨[], [], []⟩, [true, true]⟩
def c17 : Col := ⟨4, 1, false, [], false, 0, 0, 0, 0, false⟩
theorem v17 : (snN g17 c17 20).2.phase = 5 ∧ headE (snN g17 c17 20).1 24 = 0 ∧ (headH (snN g17 c17 20).1 24).mark = 1 ∧ (snN g17 c17 20).2.work.length = 1 ∧ (snN g17 c17 20).1.cards = [true, false] := by decide +kernel
theorem g17_light : g17.light := light_of (by decide) (by decide) (by decide)
theorem g17_small : g17.small := by unfold Hp.small most g17; decide
theorem work17 {n : Nat} (h : n ≤ 100) : n < most := by unfold most; omega

set_option maxHeartbeats 2000000 in
theorem awake17_spec : Spec X 9 [] [] (Ret [] (.bo true)) := by
  refine spec_go X_ok Tryz.f9 (by kernel_rfl) (by kernel_rfl) (by kernel_rfl) fun hb hH => ⟨rfl, ?_⟩
  obtain ⟨v1, v2, v3, v4, v5⟩ := v17
  show AOb ((0 : Int) ≤ 16 ∧ (16 : Int) ≤ 16 ∧ (16 : Int) ≤ (most : Int)) _
  refine ⟨by decide, ?_⟩
  show AOb _ _
  refine ⟨by decide, ?_⟩
  show AOb _ _
  refine ⟨by decide, ?_⟩
  show AOb _ _
  refine ⟨by decide, ?_⟩
  show AOb _ _
  refine ⟨by decide, ?_⟩
  show AOb _ _
  refine ⟨by decide, ?_⟩
  refine ⟨by decide, ?_⟩
  show ∃ n, _
  refine ⟨0, ALoop.inv (ι := {i : Nat // i ≤ 20}) (fun q => ⟨[(1, .c (.ptr 0 0 0)), (2, .c (.ptr 1 0 0)), (3, .int (q.1))], [(0, .vars ((snN g17 c17 q.1).1.enc.map .d)), (1, .vars ((snN g17 c17 q.1).2.enc.map .d))], 96⟩) (fun q => 20 - q.1) ⟨0, by decide⟩ ?_ ?_⟩
  · exact ⟨[(224, 0), (704, 1)], (by repeat' first | exact .nil | refine .cons _ _ _ ?_ ?_ | exact .same | exact .c _ _ (.own _ _ rfl) | exact .c _ _ (.ptr _ _ _ _ rfl) | exact .c _ _ (.frz _ _ rfl) | exact .any _), (by exact .old 0 224 _ _ _ rfl rfl (.vars _ _ (by repeat' first | exact .nil | refine .cons _ _ _ _ ?_ ?_ | exact .d _ | exact .nilsl _ | exact .frz _ _ rfl)) (.old 1 704 _ _ _ rfl rfl (.vars _ _ (by repeat' first | exact .nil | refine .cons _ _ _ _ ?_ ?_ | exact .d _ | exact .nilsl _ | exact .frz _ _ rfl)) .nil)), (by rfl)⟩
  rintro ⟨i, hi⟩
  show ABr (decide ((i : Int) < 20)) _ _
  refine ⟨fun h => ?_, fun h => ?_⟩
  · have hlt : i < 20 := by have := of_decide_eq_true h; omega
    have wi : IntKind.i64.wrap ((i : Int) + 1) = ((i + 1 : Nat) : Int) := wrapP (i := i) (by unfold maxN; omega)
    have hS := snN_sk g17 c17 (by decide) i
    show ACall _ _ _ _ _ _
    refine call_ret (sStep_spec (snN g17 c17 i).1 (snN g17 c17 i).2 (hS.light g17_light) (hS.small g17_small) (work17 hS.work)) rfl ?_
    show ARound _ _ _ _
    exact ⟨⟨i + 1, hlt⟩, (by dsimp only; omega), [(0, 0), (1, 1)], (by repeat' first | exact .nil | refine .cons _ _ _ ?_ ?_ | exact .int_eq wi | exact .same | exact .c _ _ (.own _ _ rfl) | exact .c _ _ (.ptr _ _ _ _ rfl) | exact .c _ _ (.frz _ _ rfl) | exact .any _), (by exact .old 0 0 _ _ _ rfl rfl (.vars _ _ (LeL_refl rfl)) (.old 1 1 _ _ _ rfl rfl (.vars _ _ (LeL_refl rfl)) .nil)), (by rfl)⟩
  · obtain rfl : i = 20 := by have := of_decide_eq_false h; omega
    have hS := snN_sk g17 c17 (by decide) 20
    show ACall _ _ _ _ _ _
    refine call_ret (hHead_spec (snN g17 c17 20).1 24 (hS.light g17_light)) rfl ?_
    show AOb _ _
    refine ⟨fun _ => (show (0 : Int) ≤ 0 ∧ (0 : Int) < (((snN g17 c17 20).1.cards.length : Nat) : Int) by rw [v5]; decide), ?_⟩
    show AOb _ _
    refine ⟨fun _ => (show (0 : Int) ≤ 1 ∧ (1 : Int) < (((snN g17 c17 20).1.cards.length : Nat) : Int) by rw [v5]; decide), ?_⟩
    show ARet _ _ _
    refine ret_bo (x := bif (bif (bif (bif (bif (bif ((snN g17 c17 20).2.phase == 5) then (headE (snN g17 c17 20).1 24 == 0) else false) then ((headH (snN g17 c17 20).1 24).mark == 1) else false) then decide (((snN g17 c17 20).2.work.length : Int) = 1) else false) then decide (((snN g17 c17 20).1.cards.length : Int) = 2) else false) then (snN g17 c17 20).1.cards.getD 0 false else false) then !(snN g17 c17 20).1.cards.getD 1 false else false) ?_ ⟨rfl, rfl⟩
    rw [v1, v2, v3, v4, v5]
    rfl

theorem few17_spec (g : Hp) (c : Col) : Spec X 10 [] [g.tv, c.tv] (Ret [] (.bo (few11 g c))) := by
  refine spec_go X_ok Tryz.f10 (by kernel_rfl) (by kernel_rfl) (by kernel_rfl) fun hb hH => ⟨rfl, ?_⟩
  show ACall _ _ _ _ _ _
  refine call_ret (Few_spec g) rfl ?_
  show ARet _ _ _
  refine ret_bo (x := bif fewH g then decide ((c.work.length : Int) ≤ 100) else false) ?_ ⟨rfl, rfl⟩
  unfold few11
  have e : decide ((c.work.length : Int) ≤ 100) = decide (c.work.length ≤ 100) := by rw [decide_eq_decide]; omega
  rw [e]
  cases fewH g <;> rfl
theorem few17_of {g : Hp} {c : Col} (h : few11 g c = true) : fewH g = true ∧ g.light ∧ g.small ∧ c.work.length ≤ 100 ∧ c.work.length < most := by
  unfold few11 at h
  rw [Bool.and_eq_true, decide_eq_true_eq] at h
  exact ⟨h.1, few_light h.1, few_small h.1, h.2, work17 h.2⟩

theorem ScanIdle_spec (g : Hp) (c : Col) : Spec X 8 [] [g.tv, c.tv] (Ret [] (.bo true)) := by
  refine spec_go X_ok Tryz.f8 (by kernel_rfl) (by kernel_rfl) (by kernel_rfl) fun hb hH => ⟨rfl, ?_⟩
  show ACall _ _ _ _ _ _
  refine call_ret (awake17_spec) rfl ?_
  show ACall _ _ _ _ _ _
  refine call_ret (few17_spec g c) rfl ?_
  cases hf : few11 g c with
  | false =>
    show AIf _ _ _
    refine ⟨fun h => absurd h.2.1 (by decide), fun _ => ?_⟩
    show AOb _ _
    refine ⟨by exact fun h => absurd h.1 (by decide), ?_⟩
    show ABr _ _ _
    refine ⟨fun _ => ?_, fun h => absurd h (by simp)⟩
    show ARet _ _ _
    exact ret_d rfl ⟨rfl, rfl⟩
  | true =>
    obtain ⟨f1, f2, f3, f4, f5⟩ := few17_of hf
    show AIf ((bif decide (c.phase = 4) then decide (c.card ≥ 0) else false) = true ∧ (bif !true then true else !true) = false ∧ True) _ _
    by_cases hp : c.phase = 4 ∧ 0 ≤ c.card
    · have hc : (bif decide (c.phase = 4) then decide (c.card ≥ 0) else false) = true := by rw [decide_eq_true hp.1, decide_eq_true (show c.card ≥ 0 from hp.2)]; rfl
      refine ⟨fun _ => ?_, fun h => absurd ⟨hc, rfl, trivial⟩ h⟩
      show ACall _ _ _ _ _ _
      refine call_ret (hHMay0_spec g f2) rfl ?_
      cases hm : mayH g [] with
      | true =>
        show ABr _ _ _
        refine ⟨fun _ => ?_, fun h => absurd h (by decide)⟩
        show ARet _ _ _
        exact ret_d rfl ⟨rfl, rfl⟩
      | false =>
        show ABr _ _ _
        refine ⟨fun h => absurd h (by decide), fun _ => ?_⟩
        have hn : ¬ (mayH g [] = true ∧ c.phase = 4 ∧ 0 ≤ c.card) := fun k => by rw [hm] at k; exact absurd k.1 (by decide)
        have hi := scan_idle (g := g) (c := c) hn
        show ACall _ _ _ _ _ _
        refine call_ret (sStep_spec g c f2 f3 f5) rfl ?_
        rw [hi]
        show ACall _ _ _ _ _ _
        refine call_ret (hSame_spec g g) rfl ?_
        rw [decide_eq_true (show g = g from rfl)]
        show AIf _ _ _
        refine ⟨fun _ => ?_, fun h => absurd ⟨(by rfl), trivial⟩ h⟩
        show ACall _ _ _ _ _ _
        refine call_ret (cSame_spec c c) rfl ?_
        rw [decide_eq_true (show c = c from rfl)]
        show ARet _ _ _
        exact ret_d rfl ⟨rfl, rfl⟩
    · have hc : (bif decide (c.phase = 4) then decide (c.card ≥ 0) else false) = false := by
        by_cases h4 : c.phase = 4
        · rw [decide_eq_true h4, decide_eq_false (show ¬ c.card ≥ 0 from fun q => hp ⟨h4, q⟩)]; rfl
        · rw [decide_eq_false h4]; rfl
      refine ⟨fun h => absurd (hc.symm.trans h.1) (by decide), fun _ => ?_⟩
      show AOb _ _
      refine ⟨by exact fun _ => hc, ?_⟩
      have hn : ¬ (mayH g [] = true ∧ c.phase = 4 ∧ 0 ≤ c.card) := fun k => hp k.2
      show ABr _ _ _
      refine ⟨fun h => absurd h (by decide), fun _ => ?_⟩
      have hi := scan_idle (g := g) (c := c) hn
      show ACall _ _ _ _ _ _
      refine call_ret (sStep_spec g c f2 f3 f5) rfl ?_
      rw [hi]
      show ACall _ _ _ _ _ _
      refine call_ret (hSame_spec g g) rfl ?_
      rw [decide_eq_true (show g = g from rfl)]
      show AIf _ _ _
      refine ⟨fun _ => ?_, fun h => absurd ⟨(by rfl), trivial⟩ h⟩
      show ACall _ _ _ _ _ _
      refine call_ret (cSame_spec c c) rfl ?_
      rw [decide_eq_true (show c = c from rfl)]
      show ARet _ _ _
      exact ret_d rfl ⟨rfl, rfl⟩
end Go.Abs
