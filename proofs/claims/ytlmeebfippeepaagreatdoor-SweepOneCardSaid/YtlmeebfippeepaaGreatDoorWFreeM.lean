/- An object whose room is given back, in plain Lean. -/
import Derived.Test.YtlmeebfippeepaaGreatDoorWFreeL
set_option linter.all false
set_option linter.unusedVariables false
set_option linter.unusedSimpArgs false
namespace Go.Abs
set_option maxRecDepth 8000

theorem start_cell {l : List Page} {u : Int} (h : u ∈ cellStarts l) : ∃ j : Nat, CellOf l (u, roomAt l u) j ∧ u / 16 - 1 = (j : Int) := by
  obtain ⟨_, j, hj⟩ := cellOf_mem (roomAt_pos (mem_starts.1 h))
  exact ⟨j, hj, hj.div⟩

theorem drop_page {h : Hp} {i : Nat} (hd : Drops h.pages i) {u : Int} (hu : u ∈ cellStarts h.pages) (hi : u / 16 - 1 ≠ (i : Int)) (w : List Int) (F : Lists) (cd : List Bool) : pageAt ⟨w, dropP h.pages i, F, cd⟩ u = pageAt h u := by
  obtain ⟨j, hj, e⟩ := start_cell hu
  unfold pageAt
  show (dropP h.pages i).getD (u / 16 - 1).toNat default = _
  rw [e, Int.toNat_natCast]
  refine hd.keep (by omega) ?_
  rcases hj.kind with k | k <;> omega

theorem drop_keeps {h : Hp} {i : Nat} {F : Lists} {cs : List Lists} (hs : shapedH h = true) (hd : Drops h.pages i) (hz : ∀ u ∈ cellStarts h.pages, u / 16 - 1 = (i : Int) → wordAt h u = 0)
    (hl : ∀ l ∈ F :: cs, ∀ d : Int, 0 ≤ d → d ≤ 2 → ∀ x ∈ l.at_ d, freeB h d x = true ∧ x / 16 - 1 ≠ (i : Int)) (hc : ∀ u ∈ cellStarts h.pages, u / 16 - 1 ≠ (i : Int) → cellB h u = true) (hn : (flats (F :: cs)).Nodup) :
    mayH ⟨h.w, dropP h.pages i, F, h.cards⟩ cs = true ∧ ((∀ u ∈ cellStarts h.pages, u / 16 - 1 ≠ (i : Int) → wordAt h u ≠ 0 ∨ u ∈ flats (F :: cs)) → wholeH ⟨h.w, dropP h.pages i, F, h.cards⟩ cs = true) ∧
    usedH ⟨h.w, dropP h.pages i, F, h.cards⟩ = (cellStarts h.pages).filter fun u => wordAt h u != 0 := by
  have hw : ∀ u, wordAt ⟨h.w, dropP h.pages i, F, h.cards⟩ u = wordAt h u := fun _ => rfl
  have hst : ∀ u, u ∈ cellStarts (dropP h.pages i) ↔ u ∈ cellStarts h.pages ∧ u / 16 - 1 ≠ (i : Int) := fun u => by rw [hd.starts, List.mem_filter, decide_eq_true_eq]
  have hm : mayH ⟨h.w, dropP h.pages i, F, h.cards⟩ cs = true := by
    refine mayH_mk ?_ ?_ ?_ hn
    · obtain ⟨a1, a2, a3, a4, _⟩ := shapedH_of hs
      unfold shapedH
      rw [a1, hd.may']
      show (true && (true && decide (h.w.length = 16 * (dropP h.pages i).length ∧ h.cards.length = 2 * (dropP h.pages i).length))) = true
      rw [hd.len, decide_eq_true ⟨a3, a4⟩]
      rfl
    · intro l hll
      refine listedB_iff.2 fun d h0 h2 x hx => ?_
      obtain ⟨k1, k2⟩ := hl l hll d h0 h2 x hx
      obtain ⟨r1, r2, r3⟩ := (of_decide_eq_true k1 : 0 < roomAt h.pages x ∧ pageAt h x = ⟨1, d⟩ ∧ wordAt h x = 0)
      have hx := mem_starts.2 (show roomAt h.pages x ≠ 0 by omega)
      refine decide_eq_true ⟨?_, ?_, r3⟩
      · show 0 < roomAt (dropP h.pages i) x
        rw [hd.room, if_neg k2]; exact r1
      · rw [drop_page hd hx k2]; exact r2
    · intro u hu
      obtain ⟨u1, u2⟩ := (hst u).1 hu
      have := hc u u1 u2
      unfold cellB at this ⊢
      rw [drop_page hd u1 u2, hw]
      exact this
  refine ⟨hm, fun hwh => ?_, ?_⟩
  · unfold wholeH
    rw [hm, Bool.true_and, List.all_eq_true]
    intro u hu
    obtain ⟨u1, u2⟩ := (hst u).1 hu
    rw [hw, Bool.or_eq_true]
    rcases hwh u u1 u2 with k | k
    · exact .inl (by simpa using k)
    · exact .inr (List.contains_iff_mem.2 k)
  · rw [usedH_eq (may_no hm)]
    show (cellStarts (dropP h.pages i)).filter (fun u => wordAt h u != 0) = _
    rw [hd.starts, List.filter_filter]
    apply List.filter_congr
    intro u hu
    by_cases e : u / 16 - 1 = (i : Int)
    · rw [hz u hu e]; rfl
    · rw [decide_eq_true e, Bool.and_true]

/-- What is left when an object's room is given back. -/
structure Freed (g k : Hp) (a : Int) (cs : List Lists) : Prop where
  may : mayH k cs = true
  whole : wholeH g cs = true → wholeH k cs = true
  used : usedH k = (usedH g).filter fun u => decide (u ≠ a)
  cards : k.cards = g.cards
  wlen : k.w.length = g.w.length
  plen : k.pages.length = g.pages.length
  word : ∀ u, u ≠ a → roomAt g.pages u ≠ 0 → ∀ f, 0 ≤ f → f < roomAt g.pages u → wordAt k (u + f) = wordAt g (u + f)
  room : ∀ u, roomAt k.pages u ≠ 0 → roomAt k.pages u = roomAt g.pages u
  starts : (cellStarts k.pages).Sublist (cellStarts g.pages)

theorem head_word {g : Hp} {cs : List Lists} (hm : mayH g cs = true) {a : Int} (h : headE g a = 0) : wordAt g a ≠ 0 := by
  have := mem_usedH.2 h
  rw [usedH_eq (may_no hm), List.mem_filter] at this
  simpa using this.2

theorem used_drop {g : Hp} {cs : List Lists} (hm : mayH g cs = true) {a : Int} (h : headE g a = 0) (fr : Lists) (cd : List Bool) :
    (cellStarts g.pages).filter (fun u => wordAt ⟨freeW g a, g.pages, fr, cd⟩ u != 0) = (usedH g).filter fun u => decide (u ≠ a) := by
  rw [usedH_eq (may_no hm), List.filter_filter]
  apply List.filter_congr
  intro u hu
  by_cases e : u = a
  · subst e
    rw [word_self h, decide_eq_false (fun k => k rfl)]; rfl
  · rw [word_at0 h (mem_starts.1 hu) e, decide_eq_true e, Bool.true_and]

/-- A large one. -/
theorem freed_large {g : Hp} {cs : List Lists} (hm : mayH g cs = true) {a : Int} (h : headE g a = 0) (hk : (g.pages.getD (pgI a).toNat default).kind = 2) :
    Freed g ⟨freeW g a, dropP g.pages (pgI a).toNat, g.free, g.cards⟩ a cs := by
  obtain ⟨m1, m2, m3, m4⟩ := mayH_of hm
  obtain ⟨hn0, hd⟩ := head_drops h
  have ei : ((pgI a).toNat : Int) = pgI a := by omega
  have hr := (headE_of h).2.1
  have hpg : ∀ u ∈ cellStarts g.pages, u / 16 - 1 = ((pgI a).toNat : Int) → u = a := by
    intro u hu e
    obtain ⟨j, hj, ej⟩ := start_cell hu
    obtain ⟨j', hj', ej'⟩ := start_cell (mem_starts.2 hr)
    have e2 : j = (pgI a).toNat := by omega
    have e3 : j' = (pgI a).toNat := by unfold pgI at *; omega
    subst e2
    rw [e3] at hj'
    have k1 : u = 16 * (((pgI a).toNat : Int) + 1) := by rcases hj.kind with k | k; omega; exact k.2.2.2.1
    have k2 : a = 16 * (((pgI a).toNat : Int) + 1) := by rcases hj'.kind with k | k; omega; exact k.2.2.2.1
    omega
  have hst : ∀ l ∈ g.free :: cs, ∀ d : Int, 0 ≤ d → d ≤ 2 → ∀ x ∈ l.at_ d, 0 < roomAt g.pages x ∧ pageAt g x = ⟨1, d⟩ ∧ wordAt g x = 0 := fun l hl d h0 h2 x hx => of_decide_eq_true (listedB_iff.1 (m2 l hl) d h0 h2 x hx)
  have key := drop_keeps (h := ⟨freeW g a, g.pages, g.free, g.cards⟩) (i := (pgI a).toNat) (F := g.free) (cs := cs) ?_ hd ?_ ?_ ?_ m4
  · obtain ⟨k1, k2, k3⟩ := key
    refine ⟨k1, fun hwh => k2 fun u hu e => ?_, k3.trans (used_drop hm h _ _), rfl, freeW_len h, hd.len, fun u hne hu f f0 f1 => word_at h hu hne ⟨f0, f1⟩ _ _ _, fun u hu => ?_, ?_⟩
    · have hne : u ≠ a := fun k => by subst k; exact e (by unfold pgI; unfold pgI at ei; omega)
      rw [word_at0 h (mem_starts.1 hu) hne]
      unfold wholeH at hwh
      rw [hm, Bool.true_and, List.all_eq_true] at hwh
      have := hwh u hu
      rw [Bool.or_eq_true] at this
      rcases this with k | k
      · exact .inl (by simpa using k)
      · exact .inr (List.contains_iff_mem.1 k)
    · have := hd.room u
      show roomAt (dropP g.pages (pgI a).toNat) u = _
      rw [this]
      split
      · rename_i e
        exact absurd (show roomAt (dropP g.pages (pgI a).toNat) u = 0 by rw [this, if_pos e]) hu
      · rfl
    · show (cellStarts (dropP g.pages (pgI a).toNat)).Sublist _
      rw [hd.starts]; exact List.filter_sublist
  · obtain ⟨a1, a2, a3, a4, _⟩ := shapedH_of m1
    have e : (freeW g a).length = g.w.length := freeW_len h
    unfold shapedH
    show (mayW (freeW g a) && (mayP g.pages && decide ((freeW g a).length = 16 * g.pages.length ∧ g.cards.length = 2 * g.pages.length))) = true
    unfold mayW at a1 ⊢
    rw [e, a1, a2, decide_eq_true ⟨a3, a4⟩]; rfl
  · intro u hu e
    rw [hpg u hu e]; exact word_self h _ _ _
  · intro l hl d h0 h2 x hx
    obtain ⟨r1, r2, r3⟩ := hst l hl d h0 h2 x hx
    have hne : x ≠ a := fun k => head_word hm h (by rw [← k]; exact r3)
    refine ⟨decide_eq_true ⟨r1, r2, ?_⟩, fun e => hne (hpg x (mem_starts.2 (by omega)) e)⟩
    rw [word_at0 h (by omega) hne]; exact r3
  · intro u hu e
    have hne : u ≠ a := fun k => by subst k; exact e (by unfold pgI; unfold pgI at ei; omega)
    have := m3 u hu
    unfold cellB at this ⊢
    rw [word_at0 h (mem_starts.1 hu) hne]
    exact this
end Go.Abs
