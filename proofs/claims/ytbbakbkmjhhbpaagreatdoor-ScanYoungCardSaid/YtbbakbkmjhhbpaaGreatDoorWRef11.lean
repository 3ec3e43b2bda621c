/- Walks: the document's colours, and its shading. -/
import Derived.Test.YtbbakbkmjhhbpaaGreatDoorWRef07
import Derived.Test.YtbbakbkmjhhbpaaGreatDoorWRefOwn
import Derived.Test.YtbbakbkmjhhbpaaGreatDoorWHeapSets
import Derived.Test.YtbbakbkmjhhbpaaGreatDoorWShadeK
set_option linter.all false
set_option linter.unusedVariables false
set_option linter.unusedSimpArgs false
namespace Go.Abs
open Go.Proofs Go.Proofs.YtbbakbkmjhhbpaaGreatDoor
set_option maxRecDepth 8000

theorem rColour_spec (g : Hp) (c : Col) (a : Int) (hl : g.light) (hw : ∀ x ∈ g.w, I64 x) : Spec X 21 [] [g.tv, c.tv, .int a] (Ret [] (.int (atK g c a))) := by
  refine spec_go X_ok Tryz.f21 (by kernel_rfl) (by kernel_rfl) (by kernel_rfl) fun hb hH => ⟨rfl, ?_⟩
  show ACall _ _ _ _ _ _
  refine call_ret (rHead7_spec g a hl hw) rfl ?_
  unfold atK colour
  obtain ⟨x, hx⟩ : ∃ x, x = headH g a := ⟨_, rfl⟩
  rw [← hx]
  by_cases h0 : headE g a = 0
  · rw [decide_eq_true h0]
    show ABr (bif (bif !decide (headE g a = 0) then true else decide (c.epoch < 0)) then true else decide (c.epoch > 1048576)) _ _
    rw [decide_eq_true h0]
    by_cases h1 : c.epoch < 0
    · rw [decide_eq_true h1]
      show ABr _ _ _
      refine ⟨fun _ => ?_, fun h => absurd h (by simp)⟩
      show ARet _ _ _
      refine ret_int (x := 0) ?_ ⟨rfl, rfl⟩
      cases (bif x.old then !c.major else false) <;> rfl
    · rw [decide_eq_false h1]
      by_cases h2 : c.epoch > 1048576
      · rw [decide_eq_true h2]
        show ABr _ _ _
        refine ⟨fun _ => ?_, fun h => absurd h (by decide)⟩
        show ARet _ _ _
        refine ret_int (x := 0) ?_ ⟨rfl, rfl⟩
        cases (bif x.old then !c.major else false) <;> rfl
      · rw [decide_eq_false h2]
        show ABr _ _ _
        refine ⟨fun h => absurd h (by decide), fun _ => ?_⟩
        show ABr ((bif x.old then !c.major else false)) _ _
        refine ⟨fun h => ?_, fun h => ?_⟩
        · rw [h]
          show ARet _ _ _
          exact ret_d rfl ⟨rfl, rfl⟩
        · rw [h]
          show ABr (decide (x.mark < c.epoch)) _ _
          refine ⟨fun h => ?_, fun h => ?_⟩
          · rw [h]
            show ARet _ _ _
            exact ret_d rfl ⟨rfl, rfl⟩
          · rw [h]
            cases hd : x.done with
            | true =>
              show ABr _ _ _
              refine ⟨fun h => absurd h (by decide), fun _ => ?_⟩
              show ARet _ _ _
              exact ret_d rfl ⟨rfl, rfl⟩
            | false =>
              show ABr _ _ _
              refine ⟨fun _ => ?_, fun h => absurd h (by decide)⟩
              show ARet _ _ _
              exact ret_d rfl ⟨rfl, rfl⟩
  · rw [decide_eq_false h0]
    show ABr (bif (bif !decide (headE g a = 0) then true else decide (c.epoch < 0)) then true else decide (c.epoch > 1048576)) _ _
    rw [decide_eq_false h0]
    show ABr _ _ _
    refine ⟨fun _ => ?_, fun h => absurd h (by simp)⟩
    show ARet _ _ _
    exact ret_d rfl ⟨rfl, rfl⟩

set_option maxHeartbeats 1000000 in
theorem rShade_spec (g : Hp) (c : Col) (a : Int) (hl : g.light) (hs : g.small) (hw : ∀ x ∈ g.w, I64 x) (hk : c.work.length < most) : Spec X 36 [] [g.tv, c.tv, .int a] (Ret [] (.tup [(shadeG g c a).tv, (shadeC g c a).tv])) := by
  refine spec_go X_ok Tryz.f36 (by kernel_rfl) (by kernel_rfl) (by kernel_rfl) fun hb hH => ⟨rfl, ?_⟩
  show ACall _ _ _ _ _ _
  refine .mk _ (rcOwn_spec c (Nat.le_of_lt hk)) fun H r hq _ _ => ?_
  obtain ⟨rfl, rfl⟩ := hq
  refine ⟨.inl rfl, ?_⟩
  show ACall _ _ _ _ _ _
  refine call_ret (rColour_spec g c a hl hw) rfl ?_
  show ABr (atK g c a != 1) _ _
  refine ⟨fun h => ?_, fun h => ?_⟩
  · have h1 : atK g c a ≠ 1 := by simpa using h
    have e1 : shadeG g c a = g := by unfold shadeG; rw [decide_eq_false h1]; rfl
    have e2 : shadeC g c a = c := by unfold shadeC; rw [decide_eq_false h1]; rfl
    rw [e1, e2]
    show ARet _ _ _
    exact ⟨[], [], _, .cons _ _ _ _ (.agg _ _ (.cons _ _ _ _ (.d _) (.cons _ _ _ _ (.d _) (.cons _ _ _ _ (.d _) (.cons _ _ _ _ (.d _) (.cons _ _ _ _ (.d _) (.cons _ _ _ _ (.d _) .nil))))))) (.cons _ _ _ _ (.agg _ _ (.cons _ _ _ _ (.d _) (.cons _ _ _ _ (.d _) (.cons _ _ _ _ (.d _) (.cons _ _ _ _ (.frz_eq (k := .int) (l := c.work) rfl rfl) (.cons _ _ _ _ (.d _) (.cons _ _ _ _ (.d _) (.cons _ _ _ _ (.d _) (.cons _ _ _ _ (.d _) (.cons _ _ _ _ (.d _) (.cons _ _ _ _ (.d _) .nil))))))))))) .nil), .nil, rfl, rfl, rfl⟩
  · have h1 : atK g c a = 1 := by simpa using h
    have e1 : shadeG g c a = setH g a (markH g c a) := by unfold shadeG; rw [decide_eq_true h1]; rfl
    have e2 : shadeC g c a = (bif decide ((c.work.length : Int) < 4) then { c with work := c.work ++ [a] } else { c with over := true }) := by unfold shadeC; rw [decide_eq_true h1]; rfl
    rw [e1, e2]
    show ACall _ _ _ _ _ _
    refine call_ret (rHead7_spec g a hl hw) rfl ?_
    show ACall _ _ _ _ _ _
    refine call_ret (rSet7_spec g a (markH g c a) hl hs hw) rfl ?_
    show ABr (decide ((c.work.length : Int) < 4)) _ _
    refine ⟨fun h => ?_, fun h => ?_⟩
    · rw [h]
      show AOb (c.work.length + 1 ≤ most) _
      refine ⟨by omega, ?_⟩
      show ARet _ _ _
      exact ⟨[], [], _, .cons _ _ _ _ (.agg _ _ (.cons _ _ _ _ (.d _) (.cons _ _ _ _ (.d _) (.cons _ _ _ _ (.d _) (.cons _ _ _ _ (.d _) (.cons _ _ _ _ (.d _) (.cons _ _ _ _ (.d _) .nil))))))) (.cons _ _ _ _ (.agg _ _ (.cons _ _ _ _ (.d _) (.cons _ _ _ _ (.d _) (.cons _ _ _ _ (.d _) (.cons _ _ _ _ (.frz_eq (k := .int) (l := c.work ++ [a]) rfl rfl) (.cons _ _ _ _ (.d _) (.cons _ _ _ _ (.d _) (.cons _ _ _ _ (.d _) (.cons _ _ _ _ (.d _) (.cons _ _ _ _ (.d _) (.cons _ _ _ _ (.d _) .nil))))))))))) .nil), .nil, rfl, rfl, rfl⟩
    · rw [h]
      show ARet _ _ _
      exact ⟨[], [], _, .cons _ _ _ _ (.agg _ _ (.cons _ _ _ _ (.d _) (.cons _ _ _ _ (.d _) (.cons _ _ _ _ (.d _) (.cons _ _ _ _ (.d _) (.cons _ _ _ _ (.d _) (.cons _ _ _ _ (.d _) .nil))))))) (.cons _ _ _ _ (.agg _ _ (.cons _ _ _ _ (.d _) (.cons _ _ _ _ (.d _) (.cons _ _ _ _ (.d _) (.cons _ _ _ _ (.frz_eq (k := .int) (l := c.work) rfl rfl) (.cons _ _ _ _ (.d _) (.cons _ _ _ _ (.d _) (.cons _ _ _ _ (.d _) (.cons _ _ _ _ (.d _) (.cons _ _ _ _ (.d _) (.cons _ _ _ _ (.d _) .nil))))))))))) .nil), .nil, rfl, rfl, rfl⟩

theorem rOwn7f_spec (g : Hp) (hs : g.small) : Spec X 11 [] [g.tv] (Ret [] g.tv) := by
  refine spec_go X_ok Tryz.f11 (by kernel_rfl) (by kernel_rfl) (by kernel_rfl) fun hb hH => ⟨rfl, ?_⟩
  obtain ⟨h1, h2, h3, h4, h5, h6⟩ := hs
  show ACall _ _ _ _ _ _
  refine call_ret (rOwn_spec g.free ⟨h4, h5, h6⟩) rfl ?_
  show AOb (g.w.length ≤ most) _
  refine ⟨h1, ?_⟩
  show AOb (g.pages.length ≤ most) _
  refine ⟨h2, ?_⟩
  show AOb (g.cards.length ≤ most) _
  refine ⟨h3, ?_⟩
  show ARet _ _ _
  exact ⟨[], [], [g.tv], .cons _ _ _ _ (.agg _ _ (.cons _ _ _ _ (.frz_eq (k := .int) (l := g.w) rfl rfl) (.cons _ _ _ _ (.frz_eq (k := .page) (l := g.pages) rfl rfl) (.cons _ _ _ _ (.d _) (.cons _ _ _ _ (.d _) (.cons _ _ _ _ (.d _) (.cons _ _ _ _ (.frz_eq (k := .bool) (l := g.cards) rfl rfl) .nil))))))) .nil, .nil, rfl, rfl, rfl⟩

theorem rcOwnf_spec (c : Col) (h : c.work.length ≤ most) : Spec X 33 [] [c.tv] (Ret [] c.tv) := by
  refine spec_go X_ok Tryz.f33 (by kernel_rfl) (by kernel_rfl) (by kernel_rfl) fun hb hH => ⟨rfl, ?_⟩
  show AOb (c.work.length ≤ most) _
  refine ⟨h, ?_⟩
  show ARet _ _ _
  exact ⟨[], [], [c.tv], .cons _ _ _ _ (.agg _ _ (.cons _ _ _ _ (.d _) (.cons _ _ _ _ (.d _) (.cons _ _ _ _ (.d _) (.cons _ _ _ _ (.frz_eq (k := .int) (l := c.work) rfl rfl) (.cons _ _ _ _ (.d _) (.cons _ _ _ _ (.d _) (.cons _ _ _ _ (.d _) (.cons _ _ _ _ (.d _) (.cons _ _ _ _ (.d _) (.cons _ _ _ _ (.d _) .nil))))))))))) .nil, .nil, rfl, rfl, rfl⟩
end Go.Abs
