/- Walks: the document's collector compared; the chapter's example of shading. -/
import Derived.Test.YtkalcaokmadpjaaDoorWShade
import Derived.Test.YtkalcaokmadpjaaDoorWSame07
set_option linter.all false
set_option linter.unusedVariables false
set_option linter.unusedSimpArgs false
namespace Go.Abs
open Go.Proofs Go.Proofs.YtkalcaokmadpjaaDoor
set_option maxRecDepth 8000

theorem col_same (a b : Col) : decide (a = b) = (bif (bif (bif (bif (bif (bif decide (a.work = b.work) then (bif (bif (bif a.phase == b.phase then a.epoch == b.epoch else false) then a.major == b.major else false) then a.over == b.over else false) else false) then a.at_ == b.at_ else false) then a.field_ == b.field_ else false) then a.seek == b.seek else false) then a.card == b.card else false) then a.met == b.met else false) := by
  obtain ⟨a1, a2, a3, a4, a5, a6, a7, a8, a9, a10⟩ := a
  obtain ⟨b1, b2, b3, b4, b5, b6, b7, b8, b9, b10⟩ := b
  rw [Bool.eq_iff_iff]
  simp [Bool.cond_eq_ite]
  constructor
  · rintro ⟨h1, h2, h3, h4, h5, h6, h7, h8, h9, h10⟩
    simp [*]
  · intro h
    simp [h]

theorem cSame_spec (a b : Col) : Spec X 53 [] [a.tv, b.tv] (Ret [] (.bo (decide (a = b)))) := by
  refine spec_go X_ok Tryd.f53 (by kernel_rfl) (by kernel_rfl) (by kernel_rfl) fun hb hH => ⟨rfl, ?_⟩
  show ACall _ _ _ _ _ _
  refine call_ret (Ints_spec a.work b.work) rfl ?_
  rw [col_same]
  show ARet _ _ _
  exact ret_d rfl ⟨rfl, rfl⟩

def few11 (g : Hp) (c : Col) : Bool := fewH g && decide (c.work.length ≤ 100)

theorem few_small {g : Hp} (h : fewH g = true) : g.small := by
  unfold fewH at h
  have := of_decide_eq_true h
  unfold Hp.small most
  omega

theorem few11_spec (g : Hp) (c : Col) : Spec X 49 [] [g.tv, c.tv] (Ret [] (.bo (few11 g c))) := by
  refine spec_go X_ok Tryd.f49 (by kernel_rfl) (by kernel_rfl) (by kernel_rfl) fun hb hH => ⟨rfl, ?_⟩
  show ACall _ _ _ _ _ _
  refine call_ret (Few_spec g) rfl ?_
  show ARet _ _ _
  refine ret_bo (x := bif fewH g then decide ((c.work.length : Int) ≤ 100) else false) ?_ ⟨rfl, rfl⟩
  unfold few11
  have e : decide ((c.work.length : Int) ≤ 100) = decide (c.work.length ≤ 100) := by rw [decide_eq_decide]; omega
  rw [e]
  cases fewH g <;> rfl

def g11 : Hp := ⟨[0, 0, 0, 0, 0, 0, 0, 0, 41, 0, 0, 0, 0, 0, 0, 0], [⟨1, 2⟩], ⟨[], [], []⟩, [false, false]⟩
def c11 : Col := ⟨0, 1, false, [], false, 0, 0, 0, 0, false⟩
theorem v11 : whiteH g11 c11 24 = true ∧ whiteH (shadeG g11 c11 24) (shadeC g11 c11 24) 24 = false ∧ (shadeC g11 c11 24).work = [24] ∧ greyH (shadeG g11 c11 24) (shadeC g11 c11 24) = [24] := by decide +kernel
theorem g11_light : g11.light := light_of (by decide) (by decide) (by decide)
theorem g11_small : g11.small := by unfold Hp.small most g11; decide
theorem set_light {g : Hp} (h : g.light) (a : Int) (x : Hd) : (setH g a x).light := by
  unfold setH
  cases decide (setE g a x = 0)
  · exact zero_light
  · exact h
theorem shade_light {g : Hp} (h : g.light) (c : Col) (a : Int) : (shadeG g c a).light := by
  unfold shadeG
  cases decide (atK g c a = 1)
  · exact h
  · exact set_light h a _

theorem awake11_spec : Spec X 48 [] [] (Ret [] (.bo true)) := by
  refine spec_go X_ok Tryd.f48 (by kernel_rfl) (by kernel_rfl) (by kernel_rfl) fun hb hH => ⟨rfl, ?_⟩
  obtain ⟨v1, v2, v3, v4⟩ := v11
  show AOb ((0 : Int) ≤ 16 ∧ (16 : Int) ≤ 16 ∧ (16 : Int) ≤ (most : Int)) _
  refine ⟨by decide, ?_⟩
  show AOb ((0 : Int) ≤ 2 ∧ (2 : Int) ≤ 2 ∧ (2 : Int) ≤ (most : Int)) _
  refine ⟨by decide, ?_⟩
  show AOb _ _
  refine ⟨by decide, ?_⟩
  refine ⟨by decide, ?_⟩
  show ACall _ _ _ _ _ _
  refine .frz [64, 128, 160] [(224, .vars (g11.enc.map .d)), (448, .vars (c11.enc.map .d))] [g11.tv, c11.tv, .int 24] _ rfl
    (.vars _ _ _ _ rfl rfl (.cons _ _ _ _ (.frz _ _ rfl) (.cons _ _ _ _ (.frz _ _ rfl) (.cons _ _ _ _ (.nilsl .int) (.cons _ _ _ _ (.nilsl .int) (.cons _ _ _ _ (.nilsl .int) (.cons _ _ _ _ (.frz _ _ rfl) .nil)))))) (.vars _ _ _ _ rfl rfl (.cons _ _ _ _ (.same _) (.cons _ _ _ _ (.same _) (.cons _ _ _ _ (.same _) (.cons _ _ _ _ (.nilsl .int) (.cons _ _ _ _ (.same _) (.cons _ _ _ _ (.same _) (.cons _ _ _ _ (.same _) (.cons _ _ _ _ (.same _) (.cons _ _ _ _ (.same _) (.cons _ _ _ _ (.same _) .nil)))))))))) .nil))
    (.cons _ _ _ _ (.agg _ _ (.cons _ _ _ _ (.frz _ _ rfl) (.cons _ _ _ _ (.frz _ _ rfl) (.cons _ _ _ _ (.nilsl .int) (.cons _ _ _ _ (.nilsl .int) (.cons _ _ _ _ (.nilsl .int) (.cons _ _ _ _ (.frz _ _ rfl) .nil))))))) (.cons _ _ _ _ (.agg _ _ (.cons _ _ _ _ (.same _) (.cons _ _ _ _ (.same _) (.cons _ _ _ _ (.same _) (.cons _ _ _ _ (.nilsl .int) (.cons _ _ _ _ (.same _) (.cons _ _ _ _ (.same _) (.cons _ _ _ _ (.same _) (.cons _ _ _ _ (.same _) (.cons _ _ _ _ (.same _) (.cons _ _ _ _ (.same _) .nil))))))))))) (.cons _ _ _ _ (.c _ _ (.same _)) .nil))) rfl (Shade_spec g11 c11 24 g11_light g11_small (by decide)) ?_
  rintro H r ⟨rfl, rfl⟩ _ _
  have gl := shade_light g11_light c11 24
  show ACall _ _ _ _ _ _
  refine call_ret (Ints_spec (shadeC g11 c11 24).work [24]) rfl ?_
  show ACall _ _ _ _ _ _
  refine call_ret (Grey_spec (shadeG g11 c11 24) (shadeC g11 c11 24) gl) rfl ?_
  show ACall _ _ _ _ _ _
  refine call_ret (Ints_spec (greyH (shadeG g11 c11 24) (shadeC g11 c11 24)) [24]) rfl ?_
  show ACall _ _ _ _ _ _
  refine call_ret (White_spec g11 c11 24 g11_light) rfl ?_
  rw [v1, v3, v4]
  show AIf _ _ _
  refine ⟨fun _ => ?_, fun h => absurd ⟨rfl, trivial⟩ h⟩
  show ACall _ _ _ _ _ _
  refine call_ret (White_spec (shadeG g11 c11 24) (shadeC g11 c11 24) 24 gl) rfl ?_
  rw [v2]
  show ARet _ _ _
  refine ret_bo (x := bif (bif !false then decide (([24] : List Int) = [24]) else false) then decide (([24] : List Int) = [24]) else false) (by decide) ⟨rfl, rfl⟩
end Go.Abs
