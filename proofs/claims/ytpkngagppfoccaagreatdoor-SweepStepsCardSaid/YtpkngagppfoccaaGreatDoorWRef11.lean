/- Walks: the document's colours, and its shading. -/
import Derived.Test.YtpkngagppfoccaaGreatDoorWRef07
import Derived.Test.YtpkngagppfoccaaGreatDoorWRefOwn
import Derived.Test.YtpkngagppfoccaaGreatDoorWHeapSets
import Derived.Test.YtpkngagppfoccaaGreatDoorWShadeK
set_option linter.all false
set_option linter.unusedVariables false
set_option linter.unusedSimpArgs false
namespace Go.Abs
open Go.Proofs Go.Proofs.YtpkngagppfoccaaGreatDoor
set_option maxRecDepth 8000

theorem rOwn7f_spec (g : Hp) (hs : g.small) : Spec X 11 [] [g.tv] (Ret [] g.tv) := by
  refine spec_go X_ok Tryz.f11 (by kernel_rfl) (by kernel_rfl) (by kernel_rfl) fun hb hH => ⟨rfl, ?_⟩
  obtain ⟨h1, h2, h3, h4, h5, h6⟩ := hs
  show ACall _ _ _ _ _ _
  refine call_ret (rOwn_spec g.free ⟨h4, h5, h6⟩) rfl ?_
  show AOb (g.w.length ≤ most) _
  refine ⟨h1, ?_⟩
  show AOb (g.pages.length ≤ most) _
  refine ⟨h2, ?_⟩
  show AOb (g.cards.length ≤ most) _
  refine ⟨h3, ?_⟩
  show ARet _ _ _
  exact ⟨[], [], [g.tv], .cons _ _ _ _ (.agg _ _ (.cons _ _ _ _ (.frz_eq (k := .int) (l := g.w) rfl rfl) (.cons _ _ _ _ (.frz_eq (k := .page) (l := g.pages) rfl rfl) (.cons _ _ _ _ (.d _) (.cons _ _ _ _ (.d _) (.cons _ _ _ _ (.d _) (.cons _ _ _ _ (.frz_eq (k := .bool) (l := g.cards) rfl rfl) .nil))))))) .nil, .nil, rfl, rfl, rfl⟩

theorem rcOwnf_spec (c : Col) (h : c.work.length ≤ most) : Spec X 32 [] [c.tv] (Ret [] c.tv) := by
  refine spec_go X_ok Tryz.f32 (by kernel_rfl) (by kernel_rfl) (by kernel_rfl) fun hb hH => ⟨rfl, ?_⟩
  show AOb (c.work.length ≤ most) _
  refine ⟨h, ?_⟩
  show ARet _ _ _
  exact ⟨[], [], [c.tv], .cons _ _ _ _ (.agg _ _ (.cons _ _ _ _ (.d _) (.cons _ _ _ _ (.d _) (.cons _ _ _ _ (.d _) (.cons _ _ _ _ (.frz_eq (k := .int) (l := c.work) rfl rfl) (.cons _ _ _ _ (.d _) (.cons _ _ _ _ (.d _) (.cons _ _ _ _ (.d _) (.cons _ _ _ _ (.d _) (.cons _ _ _ _ (.d _) (.cons _ _ _ _ (.d _) .nil))))))))))) .nil, .nil, rfl, rfl, rfl⟩
end Go.Abs
