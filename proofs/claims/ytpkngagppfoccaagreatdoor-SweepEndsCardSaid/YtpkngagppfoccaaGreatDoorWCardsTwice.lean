/- Walks: cards that are dirtied, in whichever order, are dirty. -/
import Derived.Test.YtpkngagppfoccaaGreatDoorWCardsKeep
import Derived.Test.YtpkngagppfoccaaGreatDoorWSame07
set_option linter.all false
set_option linter.unusedVariables false
set_option linter.unusedSimpArgs false
namespace Go.Abs
open Go.Proofs Go.Proofs.YtpkngagppfoccaaGreatDoor
set_option maxRecDepth 8000

theorem cset_comm (g : Hp) (m n : Int) : cset (cset g m true) n true = cset (cset g n true) m true := by
  unfold cset
  simp only
  congr 1
  by_cases h : m.toNat = n.toNat
  · rw [h]
  · exact List.set_comm _ _ h

theorem isDirty_cset {g : Hp} {a : Int} (h : cardE g a = 0) (c : Int) (hd : isDirty g a = true) : isDirty (cset g c true) a = true := by
  unfold isDirty at hd ⊢
  rw [cardE_cset, cardOf_cset, h]
  rw [h] at hd
  show (g.cards.set c.toNat true).getD (cardOf g a).toNat false = true
  have hd : g.cards.getD (cardOf g a).toNat false = true := hd
  rw [List.getD_eq_getElem?_getD] at hd ⊢
  rw [List.getElem?_set]
  have := card_in h
  split
  · rename_i e
    rw [e, if_pos (by omega)]
    rfl
  · exact hd

end Go.Abs
