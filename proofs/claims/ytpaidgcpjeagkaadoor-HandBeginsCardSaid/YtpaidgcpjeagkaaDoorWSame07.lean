/- Walks: are two heaps the same? -/
import Derived.Test.YtpaidgcpjeagkaaDoorWHead
import Derived.Test.YtpaidgcpjeagkaaDoorWClass
set_option linter.all false
set_option linter.unusedVariables false
set_option linter.unusedSimpArgs false
namespace Go.Abs
open Go.Proofs Go.Proofs.YtpaidgcpjeagkaaDoor
set_option maxRecDepth 8000

theorem list_same {α : Type} [Inhabited α] {a b : List α} (hl : a.length = b.length) (h : ∀ j, j < a.length → a.getD j default = b.getD j default) : a = b := by
  apply List.ext_getElem hl
  intro i h1 h2
  have := h i h1
  rw [List.getD_eq_getElem?_getD, List.getD_eq_getElem?_getD, List.getElem?_eq_getElem h1, List.getElem?_eq_getElem h2] at this
  exact this

theorem page_same (p q : Page) : (p.kind == q.kind && (p.arg == q.arg && true)) = decide (p = q) := by
  obtain ⟨a, b⟩ := p
  obtain ⟨c, d⟩ := q
  rw [Bool.eq_iff_iff]
  simp

theorem hp_same (a b : Hp) : decide (a = b) = (decide (a.w = b.w) && (decide (a.pages = b.pages) && (decide (a.free = b.free) && decide (a.cards = b.cards)))) := by
  obtain ⟨a1, a2, a3, a4⟩ := a
  obtain ⟨b1, b2, b3, b4⟩ := b
  rw [Bool.eq_iff_iff]
  simp

end Go.Abs
