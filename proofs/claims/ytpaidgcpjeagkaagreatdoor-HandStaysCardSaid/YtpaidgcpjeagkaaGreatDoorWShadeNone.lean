/- Walks: what shading changes nothing of. -/
import Derived.Test.YtpaidgcpjeagkaaGreatDoorWShade2
import Derived.Test.YtpaidgcpjeagkaaGreatDoorWHeapK
set_option linter.all false
set_option linter.unusedVariables false
set_option linter.unusedSimpArgs false
namespace Go.Abs
open Go.Proofs Go.Proofs.YtpaidgcpjeagkaaGreatDoor
set_option maxRecDepth 8000

theorem at_zero (g : Hp) (c : Col) : atK g c 0 = 0 := by
  unfold atK
  by_cases h : headE g 0 = 0
  · have := room_adr (headE_of h).2.1
    unfold adr at this
    omega
  · rw [decide_eq_false h]
    rfl

theorem at_one {g : Hp} {c : Col} {a : Int} (h : atK g c a = 1) : headE g a = 0 ∧ (headH g a).mark < c.epoch := by
  unfold atK at h
  by_cases h0 : headE g a = 0
  · refine ⟨h0, ?_⟩
    rw [decide_eq_true h0] at h
    have h : colour c (headH g a) = 1 := h
    unfold colour at h
    by_cases h1 : (headH g a).mark < c.epoch
    · exact h1
    · exfalso
      rw [decide_eq_false h1] at h
      revert h
      generalize (bif (bif (bif (headH g a).old then !c.major else false) then true else decide (c.epoch < 0)) then true else decide (c.epoch > 1048576)) = q
      cases q <;> cases (headH g a).done <;> decide
  · rw [decide_eq_false h0] at h
    have h : (0 : Int) = 1 := h
    exact absurd h (by decide)

theorem shade_ne {g : Hp} {c : Col} {a : Int} (h : atK g c a = 1) : shadeG g c a ≠ g := by
  intro e
  obtain ⟨h0, h1⟩ := at_one h
  unfold shadeG at e
  rw [decide_eq_true h] at e
  have e : setH g a (markH g c a) = g := e
  by_cases hE : setE g a (markH g c a) = 0
  · rw [setH_yes hE] at e
    obtain ⟨hp, _⟩ := setE_ok hE
    have h2 := (head_put hp h0).2
    rw [if_pos rfl, e] at h2
    have h3 : (headH g a).mark = c.epoch := by rw [h2]; rfl
    omega
  · rw [setH_no rfl hE] at e
    obtain ⟨_, _, h2, _, h3, _⟩ := shapedH_of (mayH_shaped (headE_of h0).1)
    rw [← e] at h2 h3
    exact absurd h3 (by decide)

end Go.Abs
