/- Walks: a heap may be, is whole, has heads and objects as the document says. -/
import Derived.Test.YtpkngagppfoccaaGreatDoorWRef07
set_option linter.all false
set_option linter.unusedVariables false
set_option linter.unusedSimpArgs false
namespace Go.Abs
open Go.Proofs Go.Proofs.YtpkngagppfoccaaGreatDoor
set_option maxRecDepth 8000

abbrev lightL (l : Lists) : Prop := l.l0.length ≤ 70 ∧ l.l1.length ≤ 70 ∧ l.l2.length ≤ 70

theorem flats_light {L : List Lists} (h : ∀ l ∈ L, lightL l) : (flats L).length ≤ 210 * L.length := by
  induction L with
  | nil => exact Nat.le_refl _
  | cons x r ih =>
    have h1 := h x (List.mem_cons_self ..)
    have h2 := ih fun l hl => h l (List.mem_cons_of_mem _ hl)
    obtain ⟨a, b, c⟩ := h1
    have : (flats (x :: r)).length = x.flat.length + (flats r).length := by unfold flats; rw [List.flatMap_cons, List.length_append]
    have h3 : x.flat.length = x.l0.length + x.l1.length + x.l2.length := by simp [Lists.flat]; omega
    rw [this, h3, List.length_cons]
    omega

theorem few_lightL {g : Hp} (h : fewH g = true) : lightL g.free := by
  have := of_decide_eq_true h
  exact ⟨by omega, by omega, by omega⟩

/-- Caches that are few and light, with those of a heap that is few. -/
theorem flats_few {g : Hp} {cs : List Lists} (hf : fewH g = true) (h4 : cs.length ≤ 4) (hcs : ∀ l ∈ cs, lightL l) : (flats (lsts g cs)).length ≤ most := by
  have h1 := flats_light (L := g.free :: cs) (by
    intro l hl
    rcases List.mem_cons.1 hl with rfl | hl
    · exact few_lightL hf
    · exact hcs l hl)
  rw [List.length_cons] at h1
  show (flats (g.free :: cs)).length ≤ _
  unfold most
  omega

theorem mem_of_lt {α : Type} [Inhabited α] {l : List α} {p : α → Prop} (h : ∀ j, j < l.length → p (l.getD j default)) : ∀ x ∈ l, p x := by
  intro x hx
  obtain ⟨j, hj, rfl⟩ := List.mem_iff_getElem.1 hx
  have := h j hj
  rw [List.getD_eq_getElem?_getD, List.getElem?_eq_getElem hj] at this
  exact this

end Go.Abs
