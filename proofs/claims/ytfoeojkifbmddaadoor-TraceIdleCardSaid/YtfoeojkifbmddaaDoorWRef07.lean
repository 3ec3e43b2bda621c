/- Walks: the document's heaps: may be, whole, heads, objects. -/
import Derived.Test.YtfoeojkifbmddaaDoorWBegins
import Derived.Test.YtfoeojkifbmddaaDoorWHeap4
set_option linter.all false
set_option linter.unusedVariables false
set_option linter.unusedSimpArgs false
namespace Go.Abs
open Go.Proofs Go.Proofs.YtfoeojkifbmddaaDoor
set_option maxRecDepth 8000

theorem kind_at {g : Hp} {a : Int} (hr : roomAt g.pages a ≠ 0) : (pageAt g a).kind = 1 ∨ (pageAt g a).kind = 2 := by
  obtain ⟨_, i, hi⟩ := cellOf_mem (roomAt_pos hr)
  have hpg : pageAt g a = g.pages.getD i default := by
    unfold pageAt
    have := hi.div
    simp only at this
    rw [this]
    simp
  rw [hpg]
  rcases hi.kind with ⟨k1, _⟩ | ⟨k1, _⟩
  · exact .inl k1
  · exact .inr k1

theorem runE_cls {n : Int} (h : clsE n ≠ 0) : runE n ≠ 0 := by
  unfold runE
  rw [if_pos h]
  exact h

/-- The first word of a cell is a 64-bit number. -/
theorem word_lt {g : Hp} {a : Int} (hs : shapedH g = true) (had : adr g a) (hw : ∀ x ∈ g.w, I64 x) : wordAt g a < 9223372036854775808 := by
  obtain ⟨_, _, h3, _⟩ := shapedH_of hs
  have h1 := had.1; have h2 := had.2
  have hidx : (a - 16).toNat < g.w.length := by omega
  refine (hw _ ?_).2
  unfold wordAt at0
  rw [List.getD_eq_getElem?_getD, List.getElem?_eq_getElem hidx]
  exact List.getElem_mem hidx

end Go.Abs
