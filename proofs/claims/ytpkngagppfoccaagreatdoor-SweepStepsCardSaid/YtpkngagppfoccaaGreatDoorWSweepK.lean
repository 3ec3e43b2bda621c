/- A step of freeing what is white, in plain Lean. -/
import Derived.Test.YtpkngagppfoccaaGreatDoorWSweep
import Derived.Test.YtpkngagppfoccaaGreatDoorWFreeN
import Derived.Test.YtpkngagppfoccaaGreatDoorWShadeK
set_option linter.all false
set_option linter.unusedVariables false
set_option linter.unusedSimpArgs false
namespace Go.Abs
set_option maxRecDepth 8000

/-- It, grown old. -/
abbrev agedH (g : Hp) (a : Int) : Hd := { headH g a with old := true }

theorem old_ok {g : Hp} {a : Int} (h : headE g a = 0) : PutOk g a (agedH g a) ∧ setH g a (agedH g a) = putH g a (agedH g a).word := by
  have hu := (head_fits h).1
  obtain ⟨p, s⟩ := putok_of (x := agedH g a) h (by have := (head_may h).1; unfold Hd.May at this ⊢; rw [if_pos hu] at this; rw [if_pos hu]; exact this) hu rfl
  exact ⟨p, setH_yes s⟩

theorem freed_light {g k : Hp} {a : Int} {cs : List Lists} (f : Freed g k a cs) : k.light := by
  have := may_light (may_no f.may)
  unfold Hp.light most; omega
theorem freed_small {g k : Hp} {a : Int} {cs : List Lists} (f : Freed g k a cs) (h : g.small) : k.small := by
  obtain ⟨h1, h2, h3, _⟩ := h
  have hm := may_no f.may
  have e0 := may_at hm 0
  have e1 := may_at hm 1
  have e2 := may_at hm 2
  have e0 : k.free.l0.length ≤ 512 := e0
  have e1 : k.free.l1.length ≤ 512 := e1
  have e2 : k.free.l2.length ≤ 512 := e2
  refine ⟨by rw [f.wlen]; exact h1, by rw [f.plen]; exact h2, by rw [f.cards]; exact h3, ?_, ?_, ?_⟩ <;> unfold most <;> omega

/-- The steps of a sweep. -/
inductive SwStep (g : Hp) (c : Col) : Hp → Col → Prop
  | idle (h : ¬ (mayH g [] = true ∧ c.phase = 6)) : SwStep g c g c
  | old (hm : mayH g [] = true) (hp : c.phase = 6) (hmet : c.met = true) (hf : fateH g c c.seek = 2) (h0 : headE g c.seek = 0) (h : PutOk g c.seek (agedH g c.seek)) : SwStep g c (putH g c.seek (agedH g c.seek).word) { c with met := false }
  | pass (hm : mayH g [] = true) (hp : c.phase = 6) (hmet : c.met = true) (hf : fateH g c c.seek ≠ 2) : SwStep g c g { c with met := false }
  | free (hm : mayH g [] = true) (hp : c.phase = 6) (hmet : c.met = false) (hn : nextS g.pages c.seek ∈ cellStarts g.pages) (hl : c.seek < nextS g.pages c.seek) (hq : ∀ u ∈ cellStarts g.pages, c.seek < u → nextS g.pages c.seek ≤ u) (hf : fateH g c (nextS g.pages c.seek) = 1) (h0 : headE g (nextS g.pages c.seek) = 0) : SwStep g c (freeH g (nextS g.pages c.seek)) { c with seek := nextS g.pages c.seek }
  | dirty (hm : mayH g [] = true) (hp : c.phase = 6) (hmet : c.met = false) (hn : nextS g.pages c.seek ∈ cellStarts g.pages) (hl : c.seek < nextS g.pages c.seek) (hq : ∀ u ∈ cellStarts g.pages, c.seek < u → nextS g.pages c.seek ≤ u) (hf : fateH g c (nextS g.pages c.seek) = 2) (h0 : headE g (nextS g.pages c.seek) = 0) (hc : cardE g (nextS g.pages c.seek) = 0) : SwStep g c (cset g (cardOf g (nextS g.pages c.seek)) true) { c with seek := nextS g.pages c.seek, met := true }
  | stay (hm : mayH g [] = true) (hp : c.phase = 6) (hmet : c.met = false) (hn : nextS g.pages c.seek ∈ cellStarts g.pages) (hl : c.seek < nextS g.pages c.seek) (hq : ∀ u ∈ cellStarts g.pages, c.seek < u → nextS g.pages c.seek ≤ u) (hf : fateH g c (nextS g.pages c.seek) = 0) : SwStep g c g { c with seek := nextS g.pages c.seek }
  | done (hm : mayH g [] = true) (hp : c.phase = 6) (hmet : c.met = false) (hn : ∀ u ∈ cellStarts g.pages, u ≤ c.seek) : SwStep g c g ⟨0, c.epoch, c.major, [], false, 0, 0, 0, 0, false⟩

theorem nextB_cases (l : List Page) (a : Int) : (nextB l a = false ∧ ∀ u ∈ cellStarts l, u ≤ a) ∨ (nextB l a = true ∧ a < nextS l a ∧ nextS l a ∈ cellStarts l ∧ ∀ u ∈ cellStarts l, a < u → nextS l a ≤ u) := by
  unfold nextB
  cases h : (cellStarts l).find? fun s => decide (a < s) with
  | none =>
    refine .inl ⟨rfl, fun u hu => ?_⟩
    have := List.find?_eq_none.1 h u hu
    simpa using this
  | some x =>
    refine .inr ⟨rfl, ?_⟩
    have hx := List.find?_some h
    have hm := List.mem_of_find?_eq_some h
    have hx : a < x := of_decide_eq_true hx
    rcases nextS_cases l a with ⟨_, h2⟩ | h2
    · have := h2 x hm; omega
    · exact h2

theorem sweep_step (g : Hp) (c : Col) : SwStep g c (sweepS g c).1 (sweepS g c).2 := by
  unfold sweepS
  by_cases hm : mayH g [] = true ∧ c.phase = 6
  · rw [if_pos hm]
    obtain ⟨hm, hp⟩ := hm
    cases hmet : c.met with
    | true =>
      rw [if_pos rfl]
      unfold ageG
      by_cases hf : fateH g c c.seek = 2
      · rw [if_pos hf]
        have h0 : headE g c.seek = 0 := by
          rcases fateH_cases g c c.seek with h | ⟨h, _⟩ | ⟨_, h⟩
          · omega
          · omega
          · exact h
        obtain ⟨p, e⟩ := old_ok h0
        show SwStep g c (setH g c.seek (agedH g c.seek)) _
        rw [e]
        exact .old hm hp hmet hf h0 p
      · rw [if_neg hf]
        exact .pass hm hp hmet hf
    | false =>
      rw [if_neg (by decide)]
      rcases nextB_cases g.pages c.seek with ⟨h1, h2⟩ | ⟨h1, h2, h3, h4⟩
      · rw [h1, if_neg (by decide)]
        exact .done hm hp hmet h2
      · rw [h1, if_pos rfl]
        unfold cellS
        rcases fateH_cases g c (nextS g.pages c.seek) with h | ⟨h, h0⟩ | ⟨h, h0⟩
        · rw [if_neg (by omega), if_neg (by omega)]
          exact .stay hm hp hmet h3 h2 h4 h
        · rw [if_pos h]
          exact .free hm hp hmet h3 h2 h4 h h0
        · rw [if_neg (by omega), if_pos h]
          have hc : cardE g (nextS g.pages c.seek) = 0 := by
            obtain ⟨z1, z2, z3, z4⟩ := head_room h0
            exact cardE_mk hm ⟨z2, by omega⟩
          show SwStep g c (dirtyH g (nextS g.pages c.seek)) _
          rw [dirtyH_yes hc]
          exact .dirty hm hp hmet h3 h2 h4 h h0 hc
  · rw [if_neg hm]
    exact .idle hm

theorem SwStep.light {g k : Hp} {c d : Col} (s : SwStep g c k d) (h : g.light) : k.light := by
  cases s with
  | idle | pass | stay | done => exact h
  | old hm hp hmet hf h0 p => exact h
  | free hm hp hmet hn hl hq hf h0 => exact freed_light (freed hm h0)
  | dirty => exact h
theorem SwStep.small {g k : Hp} {c d : Col} (s : SwStep g c k d) (h : g.small) : k.small := by
  cases s with
  | idle | pass | stay | done => exact h
  | old hm hp hmet hf h0 p =>
    obtain ⟨h1, h2⟩ := h
    exact ⟨by show (List.set _ _ _).length ≤ _; rw [List.length_set]; exact h1, h2⟩
  | free hm hp hmet hn hl hq hf h0 => exact freed_small (freed hm h0) h
  | dirty => 
    obtain ⟨h1, h2, h3, h4⟩ := h
    exact ⟨h1, h2, by rw [cset_len]; exact h3, h4⟩
theorem SwStep.work {g k : Hp} {c d : Col} (s : SwStep g c k d) : d.work = c.work ∨ d.work = [] := by
  cases s <;> first | exact .inl rfl | exact .inr rfl
end Go.Abs
