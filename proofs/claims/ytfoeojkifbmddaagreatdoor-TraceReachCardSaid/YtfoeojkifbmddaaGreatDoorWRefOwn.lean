/- Walks: the document's heaps of one's own; a head is set; a new heap. -/
import Derived.Test.YtfoeojkifbmddaaGreatDoorWRef07
import Derived.Test.YtfoeojkifbmddaaGreatDoorWShade
import Derived.Test.YtfoeojkifbmddaaGreatDoorWSame07
set_option linter.all false
set_option linter.unusedVariables false
set_option linter.unusedSimpArgs false
namespace Go.Abs
open Go.Proofs Go.Proofs.YtfoeojkifbmddaaGreatDoor
set_option maxRecDepth 8000

/-- A heap whose words, pages and cards are rows of one's own. -/
def Hp.owned (g : Hp) : TV := .agg [.own 0, .own 1, .d (.sl .int g.free.l0), .d (.sl .int g.free.l1), .d (.sl .int g.free.l2), .own 2]
def Hp.rows (g : Hp) : Heap := [(0, .data .int g.w), (1, .data .page g.pages), (2, .data .bool g.cards)]

theorem rOwn7_spec (g : Hp) (hs : g.small) : Spec X 17 [] [g.tv] (Ret g.rows g.owned) := by
  refine spec_go X_ok Tryz.f17 (by kernel_rfl) (by kernel_rfl) (by kernel_rfl) fun hb hH => ⟨rfl, ?_⟩
  obtain ⟨h1, h2, h3, h4, h5, h6⟩ := hs
  show ACall _ _ _ _ _ _
  refine call_ret (rOwn_spec g.free ⟨h4, h5, h6⟩) rfl ?_
  show AOb (g.w.length ≤ most) _
  refine ⟨h1, ?_⟩
  show AOb (g.pages.length ≤ most) _
  refine ⟨h2, ?_⟩
  show AOb (g.cards.length ≤ most) _
  refine ⟨h3, ?_⟩
  show ARet _ _ _
  exact ⟨[(416, 0), (640, 1), (864, 2)], g.rows, [g.owned], .cons _ _ _ _ (.agg _ _ (.cons _ _ _ _ (.own _ _ rfl) (.cons _ _ _ _ (.own _ _ rfl) (.cons _ _ _ _ (.d _) (.cons _ _ _ _ (.d _) (.cons _ _ _ _ (.d _) (.cons _ _ _ _ (.own _ _ rfl) .nil))))))) .nil, .old 0 416 _ _ _ rfl rfl (.data_eq rfl) (.old 1 640 _ _ _ rfl rfl (.data_eq rfl) (.old 2 864 _ _ _ rfl rfl (.data_eq rfl) .nil)), rfl, rfl, rfl⟩


end Go.Abs
