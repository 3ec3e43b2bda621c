/- Walks: colours, what shading does. -/
import Derived.Test.YtpkngagppfoccaaGreatDoorWShade
import Derived.Test.YtpkngagppfoccaaGreatDoorWSame07
import Derived.Test.YtpkngagppfoccaaGreatDoorWHeap4
set_option linter.all false
set_option linter.unusedVariables false
set_option linter.unusedSimpArgs false
namespace Go.Abs
open Go.Proofs Go.Proofs.YtpkngagppfoccaaGreatDoor
set_option maxRecDepth 8000

theorem col_same (a b : Col) : decide (a = b) = (bif (bif (bif (bif (bif (bif decide (a.work = b.work) then (bif (bif (bif a.phase == b.phase then a.epoch == b.epoch else false) then a.major == b.major else false) then a.over == b.over else false) else false) then a.at_ == b.at_ else false) then a.field_ == b.field_ else false) then a.seek == b.seek else false) then a.card == b.card else false) then a.met == b.met else false) := by
  obtain ⟨a1, a2, a3, a4, a5, a6, a7, a8, a9, a10⟩ := a
  obtain ⟨b1, b2, b3, b4, b5, b6, b7, b8, b9, b10⟩ := b
  rw [Bool.eq_iff_iff]
  simp [Bool.cond_eq_ite]
  constructor
  · rintro ⟨h1, h2, h3, h4, h5, h6, h7, h8, h9, h10⟩
    simp [*]
  · intro h
    simp [h]

theorem cSame_spec (a b : Col) : Spec X 15 [] [a.tv, b.tv] (Ret [] (.bo (decide (a = b)))) := by
  refine spec_go X_ok Tryz.f15 (by kernel_rfl) (by kernel_rfl) (by kernel_rfl) fun hb hH => ⟨rfl, ?_⟩
  show ACall _ _ _ _ _ _
  refine call_ret (Ints_spec a.work b.work) rfl ?_
  rw [col_same]
  show ARet _ _ _
  exact ret_d rfl ⟨rfl, rfl⟩

def few11 (g : Hp) (c : Col) : Bool := fewH g && decide (c.work.length ≤ 100)

theorem few_small {g : Hp} (h : fewH g = true) : g.small := by
  unfold fewH at h
  have := of_decide_eq_true h
  unfold Hp.small most
  omega

end Go.Abs

namespace Go.Abs
open Go.Proofs Go.Proofs.YtpkngagppfoccaaGreatDoor
set_option maxRecDepth 8000

end Go.Abs

namespace Go.Abs

/-! Heads. -/
theorem head_may {g : Hp} {a : Int} (h : headE g a = 0) : (headH g a).May ∧ (headH g a).used = true := by
  obtain ⟨hm, hr, hu⟩ := headE_of h
  rw [headH_yes h]
  have hc := (mayH_of hm).2.2.1 a (mem_starts.2 hr)
  unfold cellB at hc
  rw [Bool.and_eq_true] at hc
  obtain ⟨e, h2⟩ := isHd_unp hc.1
  rw [e]
  rw [e] at hu
  exact ⟨h2, hu⟩

theorem putok_of {g : Hp} {a : Int} {x : Hd} (h0 : headE g a = 0) (hx : x.May) (hu : x.used = true) (hn : x.n = (headH g a).n) : PutOk g a x ∧ setE g a x = 0 := by
  have h : setE g a x = 0 := by unfold setE; rw [decide_eq_true h0, decide_eq_true ⟨hx, hu, hn⟩]; rfl
  exact ⟨(setE_ok h).1, h⟩

/-! Shading. -/
/-! Making black. -/
end Go.Abs
