/- Walks: the law ListsAll. -/
import Derived.Test.YtfoeojkifbmddaaDoorWPdq
import Derived.Test.YtfoeojkifbmddaaDoorWLists1
set_option linter.all false
set_option linter.unusedVariables false
set_option linter.unusedSimpArgs false
namespace Go.Abs
open Go.Proofs Go.Proofs.YtfoeojkifbmddaaDoor
set_option maxRecDepth 8000

theorem Apart_spec (L : List Lists) (h : (flats L).length ≤ most) : Spec X 23 [] [.c (.d (.sl .lists L))] (Ret [] (.bo (decide (flats L).Nodup))) :=
  Apart_of L h (Sort_spec (flats L))

theorem take_snoc (l : List Int) (k : Nat) (h : k < l.length) : l.take (k + 1) = l.take k ++ [at0 l k] := by
  rw [List.take_add_one, List.getElem?_eq_getElem h]
  unfold at0
  rw [List.getD_eq_getElem?_getD, List.getElem?_eq_getElem h]
  rfl

theorem take_nodup {l : List Int} {i : Nat} (h : i < l.length) : (l.take (i + 1)).Nodup ↔ (l.take i).Nodup ∧ ∀ j, j < i → at0 l i ≠ at0 l j := by
  rw [take_snoc l i h, List.nodup_append]
  constructor
  · rintro ⟨h1, _, h2⟩
    refine ⟨h1, fun j hj e => ?_⟩
    refine h2 (at0 l j) ?_ (at0 l i) (by simp) e.symm
    rw [at0_get (by omega)]
    exact List.mem_take_iff_getElem.2 ⟨j, by omega, rfl⟩
  · rintro ⟨h1, h2⟩
    refine ⟨h1, by simp, fun x hx y hy e => ?_⟩
    obtain ⟨j, hj, rfl⟩ := List.mem_take_iff_getElem.1 hx
    have hy : y = at0 l i := by simpa using hy
    refine h2 j (by omega) ?_
    rw [at0_get (i := j) (by omega), e, hy]

end Go.Abs
