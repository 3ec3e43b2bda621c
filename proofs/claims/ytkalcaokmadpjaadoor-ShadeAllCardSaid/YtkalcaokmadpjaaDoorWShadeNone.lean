/- Walks: what shading changes nothing of. -/
import Derived.Test.YtkalcaokmadpjaaDoorWShade2
import Derived.Test.YtkalcaokmadpjaaDoorWHeapK
set_option linter.all false
set_option linter.unusedVariables false
set_option linter.unusedSimpArgs false
namespace Go.Abs
open Go.Proofs Go.Proofs.YtkalcaokmadpjaaDoor
set_option maxRecDepth 8000

theorem at_zero (g : Hp) (c : Col) : atK g c 0 = 0 := by
  unfold atK
  by_cases h : headE g 0 = 0
  · have := room_adr (headE_of h).2.1
    unfold adr at this
    omega
  · rw [decide_eq_false h]
    rfl

theorem at_one {g : Hp} {c : Col} {a : Int} (h : atK g c a = 1) : headE g a = 0 ∧ (headH g a).mark < c.epoch := by
  unfold atK at h
  by_cases h0 : headE g a = 0
  · refine ⟨h0, ?_⟩
    rw [decide_eq_true h0] at h
    have h : colour c (headH g a) = 1 := h
    unfold colour at h
    by_cases h1 : (headH g a).mark < c.epoch
    · exact h1
    · exfalso
      rw [decide_eq_false h1] at h
      revert h
      generalize (bif (bif (bif (headH g a).old then !c.major else false) then true else decide (c.epoch < 0)) then true else decide (c.epoch > 1048576)) = q
      cases q <;> cases (headH g a).done <;> decide
  · rw [decide_eq_false h0] at h
    have h : (0 : Int) = 1 := h
    exact absurd h (by decide)

theorem shade_ne {g : Hp} {c : Col} {a : Int} (h : atK g c a = 1) : shadeG g c a ≠ g := by
  intro e
  obtain ⟨h0, h1⟩ := at_one h
  unfold shadeG at e
  rw [decide_eq_true h] at e
  have e : setH g a (markH g c a) = g := e
  by_cases hE : setE g a (markH g c a) = 0
  · rw [setH_yes hE] at e
    obtain ⟨hp, _⟩ := setE_ok hE
    have h2 := (head_put hp h0).2
    rw [if_pos rfl, e] at h2
    have h3 : (headH g a).mark = c.epoch := by rw [h2]; rfl
    omega
  · rw [setH_no rfl hE] at e
    obtain ⟨_, _, h2, _, h3, _⟩ := shapedH_of (mayH_shaped (headE_of h0).1)
    rw [← e] at h2 h3
    exact absurd h3 (by decide)

theorem ShadeNone_spec (g : Hp) (c : Col) (a : Int) : Spec X 18 [] [g.tv, c.tv, .int a] (Ret [] (.bo true)) := by
  refine spec_go X_ok Tryd.f18 (by kernel_rfl) (by kernel_rfl) (by kernel_rfl) fun hb hH => ⟨rfl, ?_⟩
  show ACall _ _ _ _ _ _
  refine call_ret (awake11_spec) rfl ?_
  show ACall _ _ _ _ _ _
  refine call_ret (few11_spec g c) rfl ?_
  cases hf : few11 g c with
  | false =>
    show ABr _ _ _
    refine ⟨fun _ => ?_, fun h => absurd h (by decide)⟩
    show ARet _ _ _
    exact ret_d rfl ⟨rfl, rfl⟩
  | true =>
    have hf' := hf
    unfold few11 at hf'
    rw [Bool.and_eq_true, decide_eq_true_eq] at hf'
    have hl := few_light hf'.1
    have hs := few_small hf'.1
    have hw : c.work.length < most := by unfold most; omega
    show ABr _ _ _
    refine ⟨fun h => absurd h (by decide), fun _ => ?_⟩
    have z1 : shadeG g c 0 = g := by unfold shadeG; rw [at_zero]; rfl
    have z2 : shadeC g c 0 = c := by unfold shadeC; rw [at_zero]; rfl
    show ACall _ _ _ _ _ _
    refine call_ret (Shade_spec g c 0 hl hs hw) rfl ?_
    rw [z1, z2]
    show ACall _ _ _ _ _ _
    refine call_ret (hSame_spec g g) rfl ?_
    rw [decide_eq_true rfl]
    show AIf _ _ _
    refine ⟨fun _ => ?_, fun h => absurd ⟨rfl, trivial⟩ h⟩
    show ACall _ _ _ _ _ _
    refine call_ret (cSame_spec c c) rfl ?_
    rw [decide_eq_true rfl]
    show ACall _ _ _ _ _ _
    refine call_ret (Shade_spec g c a hl hs hw) rfl ?_
    show ACall _ _ _ _ _ _
    refine call_ret (White_spec g c a hl) rfl ?_
    show ACall _ _ _ _ _ _
    refine call_ret (hSame_spec (shadeG g c a) g) rfl ?_
    by_cases hk : atK g c a = 1
    · have hne := shade_ne hk
      rw [decide_eq_false hne]
      show AIf _ _ _
      refine ⟨fun h => absurd h.1 (by decide), fun _ => ?_⟩
      show AOb _ _
      refine ⟨by decide, ?_⟩
      show ACall _ _ _ _ _ _
      refine call_ret (shBlack_spec g c a hl hs) rfl ?_
      have hk2 : ¬ atK g c a = 2 := by omega
      have x1 : blackG g c a = g := by unfold blackG; rw [decide_eq_false hk2]; rfl
      have wy : whiteH g c a = true := decide_eq_true hk
      rw [x1, decide_eq_false hk2, wy]
      show AIf _ _ _
      refine ⟨fun _ => ?_, fun h => absurd ⟨rfl, rfl, trivial⟩ h⟩
      show ACall _ _ _ _ _ _
      refine call_ret (hSame_spec g g) rfl ?_
      rw [decide_eq_true rfl]
      show ARet _ _ _
      exact ret_d rfl ⟨rfl, rfl⟩
    · have y1 : shadeG g c a = g := by unfold shadeG; rw [decide_eq_false hk]; rfl
      have y2 : shadeC g c a = c := by unfold shadeC; rw [decide_eq_false hk]; rfl
      rw [y1, y2, decide_eq_true rfl]
      show AIf _ _ _
      refine ⟨fun _ => ?_, fun h => absurd ⟨rfl, trivial⟩ h⟩
      show ACall _ _ _ _ _ _
      refine call_ret (cSame_spec c c) rfl ?_
      rw [decide_eq_true rfl]
      show ACall _ _ _ _ _ _
      refine call_ret (shBlack_spec g c a hl hs) rfl ?_
      have wn : whiteH g c a = false := decide_eq_false hk
      rw [wn]
      by_cases hk2 : atK g c a = 2
      · rw [decide_eq_true hk2]
        show AIf _ _ _
        refine ⟨fun h => absurd h.1 (by decide), fun _ => ?_⟩
        show AOb _ _
        refine ⟨by decide, ?_⟩
        show ARet _ _ _
        exact ret_d rfl ⟨rfl, rfl⟩
      · have x1 : blackG g c a = g := by unfold blackG; rw [decide_eq_false hk2]; rfl
        rw [x1, decide_eq_false hk2]
        show AIf _ _ _
        refine ⟨fun _ => ?_, fun h => absurd ⟨rfl, rfl, trivial⟩ h⟩
        show ACall _ _ _ _ _ _
        refine call_ret (hSame_spec g g) rfl ?_
        rw [decide_eq_true rfl]
        show ARet _ _ _
        exact ret_d rfl ⟨rfl, rfl⟩
end Go.Abs
