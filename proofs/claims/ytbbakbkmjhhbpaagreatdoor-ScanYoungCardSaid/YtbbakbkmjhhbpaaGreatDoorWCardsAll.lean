/- Walks: all objects begin on just one card each; by the next one just the old ones of a card are told. -/
import Derived.Test.YtbbakbkmjhhbpaaGreatDoorWCards2
import Derived.Test.YtbbakbkmjhhbpaaGreatDoorWBegins
set_option linter.all false
set_option linter.unusedVariables false
set_option linter.unusedSimpArgs false
namespace Go.Abs
open Go.Proofs Go.Proofs.YtbbakbkmjhhbpaaGreatDoor
set_option maxRecDepth 8000

theorem mem_onTo {g : Hp} {c : Int} {n : Nat} {a : Int} : a ∈ onTo g c n ↔ a ∈ usedH g ∧ 16 + c * 8 ≤ a ∧ a < 16 + c * 8 + (n : Int) := by
  unfold onTo
  rw [List.mem_filter]
  constructor
  · rintro ⟨h1, h2⟩
    obtain ⟨i, hi, rfl⟩ := List.mem_map.1 h1
    rw [List.mem_range] at hi
    exact ⟨List.contains_iff_mem.1 h2, by omega, by omega⟩
  · rintro ⟨h1, h2, h3⟩
    exact ⟨List.mem_map.2 ⟨(a - (16 + c * 8)).toNat, List.mem_range.2 (by omega), by omega⟩, List.contains_iff_mem.2 h1⟩

theorem onTo_sorted (g : Hp) (c : Int) (n : Nat) : (onTo g c n).Pairwise (· < ·) := by
  unfold onTo
  refine List.Pairwise.filter _ ?_
  rw [List.pairwise_map]
  exact List.Pairwise.imp (fun h => by omega) List.pairwise_lt_range

theorem onH_sorted (g : Hp) (c : Int) : (onH g c).Pairwise (· < ·) := by
  unfold onH
  cases decide (0 ≤ c ∧ c < (g.cards.length : Int))
  · exact List.Pairwise.nil
  · exact onTo_sorted g c 8

/-- The objects of the first cards, one behind the other. -/
def onAll (g : Hp) (n : Nat) : List Int := (List.range n).flatMap fun k : Nat => onH g (k : Int)

theorem onAll_succ (g : Hp) (n : Nat) : onAll g (n + 1) = onAll g n ++ onH g (n : Int) := by
  unfold onAll
  rw [List.range_succ, List.flatMap_append]
  simp

theorem onH_in {g : Hp} {k : Nat} (h : k < g.cards.length) : onH g (k : Int) = onTo g (k : Int) 8 := by
  unfold onH
  rw [decide_eq_true (by omega)]
  rfl

theorem mem_onAll {g : Hp} : ∀ {n : Nat}, n ≤ g.cards.length → ∀ {a : Int}, a ∈ onAll g n ↔ a ∈ usedH g ∧ 16 ≤ a ∧ a < 16 + 8 * (n : Int)
  | 0, _, a => by
    show a ∈ ([] : List Int) ↔ _
    constructor
    · intro h; cases h
    · rintro ⟨_, h2, h3⟩; omega
  | n + 1, h, a => by
    rw [onAll_succ, List.mem_append, mem_onAll (n := n) (by omega), onH_in (by omega), mem_onTo]
    constructor
    · rintro (⟨h1, h2, h3⟩ | ⟨h1, h2, h3⟩)
      · exact ⟨h1, h2, by omega⟩
      · exact ⟨h1, by omega, by omega⟩
    · rintro ⟨h1, h2, h3⟩
      by_cases hx : a < 16 + 8 * (n : Int)
      · exact .inl ⟨h1, h2, hx⟩
      · exact .inr ⟨h1, by omega, by omega⟩

theorem onAll_sorted {g : Hp} : ∀ {n : Nat}, n ≤ g.cards.length → (onAll g n).Pairwise (· < ·)
  | 0, _ => List.Pairwise.nil
  | n + 1, h => by
    rw [onAll_succ, List.pairwise_append]
    refine ⟨onAll_sorted (by omega), onH_sorted g _, fun x hx y hy => ?_⟩
    have h1 := ((mem_onAll (by omega)).1 hx).2.2
    rw [onH_in (by omega)] at hy
    have h2 := (mem_onTo.1 hy).2.1
    omega

theorem onAll_used {g : Hp} (hm : mayH g [] = true) : onAll g g.cards.length = usedH g := by
  obtain ⟨_, _, h3, h4, _⟩ := shapedH_of (mayH_shaped hm)
  refine sorted_same (onAll_sorted (Nat.le_refl _)) (usedH_sorted g) fun x => ?_
  rw [mem_onAll (Nat.le_refl _)]
  constructor
  · exact fun h => h.1
  · intro h
    have := (head_fits (mem_usedH.1 h)).2.2.2
    exact ⟨h, this.1, by have := this.2; omega⟩

theorem onH_len (g : Hp) (c : Int) : (onH g c).length ≤ 8 := by
  unfold onH
  cases decide (0 ≤ c ∧ c < (g.cards.length : Int))
  · exact Nat.zero_le _
  · exact onTo_len g c 8

theorem onAll_len (g : Hp) : ∀ n : Nat, (onAll g n).length ≤ 8 * n
  | 0 => Nat.le_refl _
  | n + 1 => by
    rw [onAll_succ, List.length_append]
    have := onAll_len g n
    have := onH_len g (n : Int)
    omega

/-- The old objects of a card. -/
def oldH (g : Hp) (c : Int) : List Int := (onH g c).filter fun b => (headH g b).old

theorem next_old (g : Hp) (c a : Int) : nextO g c a = (oldH g c).find? fun b => decide (a < b) := by
  unfold nextO oldH
  rw [List.find?_filter]
  congr 1
  funext b
  rw [Bool.and_comm, Bool.decide_and, Bool.decide_eq_true, Bool.decide_eq_true]

theorem find_next {l : List Int} (hs : l.Pairwise (· < ·)) : ∀ i, i < l.length → (l.find? fun b => decide (at0 l i < b)) = l[i + 1]? := by
  intro i hi
  have hd : l = l.take (i + 1) ++ l.drop (i + 1) := (List.take_append_drop _ _).symm
  have h1 : (l.take (i + 1)).find? (fun b => decide (at0 l i < b)) = none := by
    rw [List.find?_eq_none]
    intro x hx
    obtain ⟨j, hj, e⟩ := List.mem_iff_getElem.1 hx
    rw [List.getElem_take] at e
    have hj' : j < i + 1 := by simp at hj; omega
    have : x ≤ at0 l i := by
      unfold at0
      rw [List.getD_eq_getElem?_getD, List.getElem?_eq_getElem hi, ← e]
      by_cases hji : j = i
      · subst hji; exact Int.le_refl _
      · exact Int.le_of_lt (List.pairwise_iff_getElem.1 hs j i (by omega) hi (by omega))
    simpa using this
  rw [show (l.find? fun b => decide (at0 l i < b)) = (l.take (i + 1) ++ l.drop (i + 1)).find? (fun b => decide (at0 l i < b)) from by rw [← hd], List.find?_append, h1, Option.none_or]
  cases hn : l[i + 1]? with
  | none =>
    have : l.drop (i + 1) = [] := List.drop_eq_nil_of_le (by have := List.getElem?_eq_none_iff.1 hn; omega)
    rw [this]
    rfl
  | some y =>
    obtain ⟨hlt, e⟩ := List.getElem?_eq_some_iff.1 hn
    rw [List.drop_eq_getElem_cons hlt, List.find?_cons]
    have : at0 l i < l[i + 1] := by
      unfold at0
      rw [List.getD_eq_getElem?_getD, List.getElem?_eq_getElem hi]
      exact List.pairwise_iff_getElem.1 hs i (i + 1) hi hlt (by omega)
    rw [decide_eq_true this, e]

theorem find_first {l : List Int} (hp : ∀ x ∈ l, 0 < x) : (l.find? fun b => decide (0 < b)) = l[0]? := by
  cases l with
  | nil => rfl
  | cons x r =>
    rw [List.find?_cons, decide_eq_true (hp x (List.mem_cons_self ..))]
    rfl

theorem oldH_sorted (g : Hp) (c : Int) : (oldH g c).Pairwise (· < ·) := (onH_sorted g c).filter _
theorem oldH_pos {g : Hp} {c : Int} {x : Int} (h : x ∈ oldH g c) : 0 < x := by
  have h1 := (List.mem_filter.1 h).1
  unfold onH at h1
  cases hd : decide (0 ≤ c ∧ c < (g.cards.length : Int)) with
  | false => rw [hd] at h1; cases h1
  | true =>
    rw [hd] at h1
    have := (mem_onTo.1 h1).2.1
    have := of_decide_eq_true hd
    omega

end Go.Abs
