/- Walks: what is reached: colours. -/
import Derived.Test.YtpkngagppfoccaaGreatDoorWCards
set_option linter.all false
set_option linter.unusedVariables false
set_option linter.unusedSimpArgs false
namespace Go.Abs
open Go.Proofs Go.Proofs.YtpkngagppfoccaaGreatDoor
set_option maxRecDepth 8000

/-! Deleting from a slice that is the first part of a row. -/
/-! A collector's, and a heap's, own. -/
def Hp.small (g : Hp) : Prop := g.w.length ≤ most ∧ g.pages.length ≤ most ∧ g.cards.length ≤ most ∧ g.free.l0.length ≤ most ∧ g.free.l1.length ≤ most ∧ g.free.l2.length ≤ most

/-! Shading; making black. -/
end Go.Abs
