/- Walks: the document's colours, and its shading. -/
import Derived.Test.YtpkngagppfoccaaGreatDoorWRef07
import Derived.Test.YtpkngagppfoccaaGreatDoorWRefOwn
import Derived.Test.YtpkngagppfoccaaGreatDoorWHeapSets
import Derived.Test.YtpkngagppfoccaaGreatDoorWShadeK
set_option linter.all false
set_option linter.unusedVariables false
set_option linter.unusedSimpArgs false
namespace Go.Abs
open Go.Proofs Go.Proofs.YtpkngagppfoccaaGreatDoor
set_option maxRecDepth 8000

theorem rColour_spec (g : Hp) (c : Col) (a : Int) (hl : g.light) (hw : ∀ x ∈ g.w, I64 x) : Spec X 19 [] [g.tv, c.tv, .int a] (Ret [] (.int (atK g c a))) := by
  refine spec_go X_ok Tryz.f19 (by kernel_rfl) (by kernel_rfl) (by kernel_rfl) fun hb hH => ⟨rfl, ?_⟩
  show ACall _ _ _ _ _ _
  refine call_ret (rHead7_spec g a hl hw) rfl ?_
  unfold atK colour
  obtain ⟨x, hx⟩ : ∃ x, x = headH g a := ⟨_, rfl⟩
  rw [← hx]
  by_cases h0 : headE g a = 0
  · rw [decide_eq_true h0]
    show ABr (bif (bif !decide (headE g a = 0) then true else decide (c.epoch < 0)) then true else decide (c.epoch > 1048576)) _ _
    rw [decide_eq_true h0]
    by_cases h1 : c.epoch < 0
    · rw [decide_eq_true h1]
      show ABr _ _ _
      refine ⟨fun _ => ?_, fun h => absurd h (by simp)⟩
      show ARet _ _ _
      refine ret_int (x := 0) ?_ ⟨rfl, rfl⟩
      cases (bif x.old then !c.major else false) <;> rfl
    · rw [decide_eq_false h1]
      by_cases h2 : c.epoch > 1048576
      · rw [decide_eq_true h2]
        show ABr _ _ _
        refine ⟨fun _ => ?_, fun h => absurd h (by decide)⟩
        show ARet _ _ _
        refine ret_int (x := 0) ?_ ⟨rfl, rfl⟩
        cases (bif x.old then !c.major else false) <;> rfl
      · rw [decide_eq_false h2]
        show ABr _ _ _
        refine ⟨fun h => absurd h (by decide), fun _ => ?_⟩
        show ABr ((bif x.old then !c.major else false)) _ _
        refine ⟨fun h => ?_, fun h => ?_⟩
        · rw [h]
          show ARet _ _ _
          exact ret_d rfl ⟨rfl, rfl⟩
        · rw [h]
          show ABr (decide (x.mark < c.epoch)) _ _
          refine ⟨fun h => ?_, fun h => ?_⟩
          · rw [h]
            show ARet _ _ _
            exact ret_d rfl ⟨rfl, rfl⟩
          · rw [h]
            cases hd : x.done with
            | true =>
              show ABr _ _ _
              refine ⟨fun h => absurd h (by decide), fun _ => ?_⟩
              show ARet _ _ _
              exact ret_d rfl ⟨rfl, rfl⟩
            | false =>
              show ABr _ _ _
              refine ⟨fun _ => ?_, fun h => absurd h (by decide)⟩
              show ARet _ _ _
              exact ret_d rfl ⟨rfl, rfl⟩
  · rw [decide_eq_false h0]
    show ABr (bif (bif !decide (headE g a = 0) then true else decide (c.epoch < 0)) then true else decide (c.epoch > 1048576)) _ _
    rw [decide_eq_false h0]
    show ABr _ _ _
    refine ⟨fun _ => ?_, fun h => absurd h (by simp)⟩
    show ARet _ _ _
    exact ret_d rfl ⟨rfl, rfl⟩

theorem rOwn7f_spec (g : Hp) (hs : g.small) : Spec X 11 [] [g.tv] (Ret [] g.tv) := by
  refine spec_go X_ok Tryz.f11 (by kernel_rfl) (by kernel_rfl) (by kernel_rfl) fun hb hH => ⟨rfl, ?_⟩
  obtain ⟨h1, h2, h3, h4, h5, h6⟩ := hs
  show ACall _ _ _ _ _ _
  refine call_ret (rOwn_spec g.free ⟨h4, h5, h6⟩) rfl ?_
  show AOb (g.w.length ≤ most) _
  refine ⟨h1, ?_⟩
  show AOb (g.pages.length ≤ most) _
  refine ⟨h2, ?_⟩
  show AOb (g.cards.length ≤ most) _
  refine ⟨h3, ?_⟩
  show ARet _ _ _
  exact ⟨[], [], [g.tv], .cons _ _ _ _ (.agg _ _ (.cons _ _ _ _ (.frz_eq (k := .int) (l := g.w) rfl rfl) (.cons _ _ _ _ (.frz_eq (k := .page) (l := g.pages) rfl rfl) (.cons _ _ _ _ (.d _) (.cons _ _ _ _ (.d _) (.cons _ _ _ _ (.d _) (.cons _ _ _ _ (.frz_eq (k := .bool) (l := g.cards) rfl rfl) .nil))))))) .nil, .nil, rfl, rfl, rfl⟩

theorem rcOwnf_spec (c : Col) (h : c.work.length ≤ most) : Spec X 32 [] [c.tv] (Ret [] c.tv) := by
  refine spec_go X_ok Tryz.f32 (by kernel_rfl) (by kernel_rfl) (by kernel_rfl) fun hb hH => ⟨rfl, ?_⟩
  show AOb (c.work.length ≤ most) _
  refine ⟨h, ?_⟩
  show ARet _ _ _
  exact ⟨[], [], [c.tv], .cons _ _ _ _ (.agg _ _ (.cons _ _ _ _ (.d _) (.cons _ _ _ _ (.d _) (.cons _ _ _ _ (.d _) (.cons _ _ _ _ (.frz_eq (k := .int) (l := c.work) rfl rfl) (.cons _ _ _ _ (.d _) (.cons _ _ _ _ (.d _) (.cons _ _ _ _ (.d _) (.cons _ _ _ _ (.d _) (.cons _ _ _ _ (.d _) (.cons _ _ _ _ (.d _) .nil))))))))))) .nil, .nil, rfl, rfl, rfl⟩
end Go.Abs
