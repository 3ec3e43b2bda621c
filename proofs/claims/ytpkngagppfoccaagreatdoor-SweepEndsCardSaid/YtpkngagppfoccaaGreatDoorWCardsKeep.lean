/- Walks: what is dirtied is dirty, what is cleaned is clean; all other cards are as they were, and so are all words. -/
import Derived.Test.YtpkngagppfoccaaGreatDoorWCards2
set_option linter.all false
set_option linter.unusedVariables false
set_option linter.unusedSimpArgs false
namespace Go.Abs
open Go.Proofs Go.Proofs.YtpkngagppfoccaaGreatDoor
set_option maxRecDepth 8000

theorem cset_get (g : Hp) (c : Int) (b : Bool) (i : Nat) (hc : 0 ≤ c ∧ c < (g.cards.length : Int)) : (cset g c b).cards.getD i default = if (i : Int) = c then b else g.cards.getD i default := by
  show (g.cards.set c.toNat b).getD i default = _
  rw [List.getD_eq_getElem?_getD, List.getD_eq_getElem?_getD, List.getElem?_set]
  by_cases h : (i : Int) = c
  · rw [if_pos (by omega), if_pos (by omega), if_pos h]; rfl
  · rw [if_neg (by omega), if_neg h]

theorem dirty_cset {g : Hp} {a : Int} (h : cardE g a = 0) (b : Bool) : isDirty (cset g (cardOf g a) b) a = b := by
  have hc := card_in h
  unfold isDirty
  rw [cardE_cset, h, cardOf_cset]
  show (true && (g.cards.set (cardOf g a).toNat b).getD (cardOf g a).toNat false) = b
  rw [List.getD_eq_getElem?_getD, List.getElem?_set, if_pos rfl, if_pos (by omega)]
  simp

theorem cleanE_card {g : Hp} {a : Int} (h : cardE g a = 0) : cleanE g (cardOf g a) = 0 := by
  unfold cleanE
  rw [(cardE_of h).1, decide_eq_true (card_in h)]
  rfl

end Go.Abs
