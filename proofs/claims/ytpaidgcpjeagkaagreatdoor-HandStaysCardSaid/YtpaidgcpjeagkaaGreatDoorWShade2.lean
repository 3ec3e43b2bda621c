/- Walks: the document's collector compared; the chapter's example of shading. -/
import Derived.Test.YtpaidgcpjeagkaaGreatDoorWShade
import Derived.Test.YtpaidgcpjeagkaaGreatDoorWSame07
set_option linter.all false
set_option linter.unusedVariables false
set_option linter.unusedSimpArgs false
namespace Go.Abs
open Go.Proofs Go.Proofs.YtpaidgcpjeagkaaGreatDoor
set_option maxRecDepth 8000

theorem col_same (a b : Col) : decide (a = b) = (bif (bif (bif (bif (bif (bif decide (a.work = b.work) then (bif (bif (bif a.phase == b.phase then a.epoch == b.epoch else false) then a.major == b.major else false) then a.over == b.over else false) else false) then a.at_ == b.at_ else false) then a.field_ == b.field_ else false) then a.seek == b.seek else false) then a.card == b.card else false) then a.met == b.met else false) := by
  obtain ⟨a1, a2, a3, a4, a5, a6, a7, a8, a9, a10⟩ := a
  obtain ⟨b1, b2, b3, b4, b5, b6, b7, b8, b9, b10⟩ := b
  rw [Bool.eq_iff_iff]
  simp [Bool.cond_eq_ite]
  constructor
  · rintro ⟨h1, h2, h3, h4, h5, h6, h7, h8, h9, h10⟩
    simp [*]
  · intro h
    simp [h]

theorem cSame_spec (a b : Col) : Spec X 12 [] [a.tv, b.tv] (Ret [] (.bo (decide (a = b)))) := by
  refine spec_go X_ok Tryz.f12 (by kernel_rfl) (by kernel_rfl) (by kernel_rfl) fun hb hH => ⟨rfl, ?_⟩
  show ACall _ _ _ _ _ _
  refine call_ret (Ints_spec a.work b.work) rfl ?_
  rw [col_same]
  show ARet _ _ _
  exact ret_d rfl ⟨rfl, rfl⟩

def few11 (g : Hp) (c : Col) : Bool := fewH g && decide (c.work.length ≤ 100)

theorem few_small {g : Hp} (h : fewH g = true) : g.small := by
  unfold fewH at h
  have := of_decide_eq_true h
  unfold Hp.small most
  omega

def g11 : Hp := ⟨[0, 0, 0, 0, 0, 0, 0, 0, 41, 0, 0, 0, 0, 0, 0, 0], [⟨1, 2⟩], ⟨[], [], []⟩, [false, false]⟩
def c11 : Col := ⟨0, 1, false, [], false, 0, 0, 0, 0, false⟩
theorem v11 : whiteH g11 c11 24 = true ∧ whiteH (shadeG g11 c11 24) (shadeC g11 c11 24) 24 = false ∧ (shadeC g11 c11 24).work = [24] ∧ greyH (shadeG g11 c11 24) (shadeC g11 c11 24) = [24] := by decide +kernel
theorem g11_light : g11.light := light_of (by decide) (by decide) (by decide)
theorem g11_small : g11.small := by unfold Hp.small most g11; decide
theorem set_light {g : Hp} (h : g.light) (a : Int) (x : Hd) : (setH g a x).light := by
  unfold setH
  cases decide (setE g a x = 0)
  · exact zero_light
  · exact h
theorem shade_light {g : Hp} (h : g.light) (c : Col) (a : Int) : (shadeG g c a).light := by
  unfold shadeG
  cases decide (atK g c a = 1)
  · exact h
  · exact set_light h a _

end Go.Abs
