/- An object's room is given back, in plain Lean. -/
import Derived.Test.YtpkngagppfoccaaGreatDoorWDrop
import Derived.Test.YtpkngagppfoccaaGreatDoorWPart
import Derived.Test.YtpkngagppfoccaaGreatDoorWHeap4
set_option linter.all false
set_option linter.unusedVariables false
set_option linter.unusedSimpArgs false
namespace Go.Abs
set_option maxRecDepth 8000

/-- The room of an object that is let go: its words are noughts. -/
def freeW (g : Hp) (a : Int) : List Int := splice g.w (a - 16).toNat (List.replicate (roomAt g.pages a).toNat (0 : Int))
/-- Its page's number. -/
def pgI (a : Int) : Int := a / 16 - 1
/-- What of a page's cells is free. -/
def outsH (g : Hp) (i : Int) : List Int := outOf (g.free.at_ (g.pages.getD i.toNat default).arg) (16 * (i + 1)) (16 * (i + 1) + 16) (g.free.at_ (g.pages.getD i.toNat default).arg).length
def staysH (g : Hp) (i : Int) : List Int := stayOf (g.free.at_ (g.pages.getD i.toNat default).arg) (16 * (i + 1)) (16 * (i + 1) + 16) (g.free.at_ (g.pages.getD i.toNat default).arg).length
/-- A page is given back, if that may be. -/
def backH (g : Hp) (i : Int) : Hp := if ((outsH g i).length : Int) = clsN (g.pages.getD i.toNat default).arg then { g with free := g.free.set_ (g.pages.getD i.toNat default).arg (staysH g i), pages := dropP g.pages i.toNat } else g
def pushH (g : Hp) (i a : Int) : Hp := { g with free := g.free.set_ (g.pages.getD i.toNat default).arg (g.free.at_ (g.pages.getD i.toNat default).arg ++ [a]) }
/-- An object's room is given back. -/
def freeH (g : Hp) (a : Int) : Hp := if headE g a = 0 then (if (g.pages.getD (pgI a).toNat default).kind = 2 then { g with w := freeW g a, pages := dropP g.pages (pgI a).toNat } else backH (pushH { g with w := freeW g a } (pgI a) a) (pgI a)) else Hp.zero

theorem nodup_le : ∀ {l m : List Int}, l.Nodup → (∀ x ∈ l, x ∈ m) → l.length ≤ m.length
  | [], _, _, _ => Nat.zero_le _
  | x :: l, m, h, hs => by
    rw [List.nodup_cons] at h
    have hx := hs x (List.mem_cons_self ..)
    have := nodup_le (m := m.erase x) h.2 fun y hy => (List.mem_erase_of_ne (fun e : y = x => h.1 (e ▸ hy))).2 (hs y (List.mem_cons_of_mem _ hy))
    rw [List.length_erase_of_mem hx] at this
    have := List.length_pos_of_mem hx
    simp; omega

theorem may_light {g : Hp} (h : mayH g [] = true) : (flats [g.free]).length ≤ 512 := by
  obtain ⟨h1, h2, h3, h4⟩ := mayH_of h
  refine Nat.le_trans (nodup_le h4 (m := cellStarts g.pages) fun x hx => ?_) (by unfold cellStarts; rw [List.length_map]; exact cellsAll_len _)
  obtain ⟨l, hl, hx⟩ := mem_flats.1 hx
  exact mem_starts.2 (by have := (listed_free (h2 l hl) hx).1; omega)

theorem may_at {g : Hp} (h : mayH g [] = true) (c : Int) : (g.free.at_ c).length ≤ 512 := by
  have := may_light h
  unfold flats Lists.flat at this
  simp at this
  unfold Lists.at_
  split
  · omega
  · split <;> omega

theorem head_drops {g : Hp} {a : Int} (h : headE g a = 0) : 0 ≤ pgI a ∧ Drops g.pages (pgI a).toNat := by
  obtain ⟨hm, hr, _⟩ := headE_of h
  obtain ⟨hmp, j, hj⟩ := cellOf_mem (roomAt_pos hr)
  have e : pgI a = (j : Int) := hj.div
  rw [e]
  refine ⟨by omega, hmp, hj.lt, ?_⟩
  rcases hj.kind with h | h
  · exact .inl h.1
  · exact .inr h.1

theorem head_room {g : Hp} {a : Int} (h : headE g a = 0) : mayW g.w = true ∧ 16 ≤ a ∧ 0 < roomAt g.pages a ∧ a + roomAt g.pages a ≤ 16 + g.w.length := by
  obtain ⟨hm, hr, _⟩ := headE_of h
  obtain ⟨hmw, hmp, hlen, _⟩ := shapedH_of (mayH_shaped hm)
  obtain ⟨_, j, hj⟩ := cellOf_mem (roomAt_pos hr)
  obtain ⟨_, hd⟩ := head_drops h
  have e : (pgI a).toNat = j := by have := hj.div; unfold pgI; omega
  rw [e] at hd
  have h1 := hj.lo
  have h2 := hj.hi
  have h3 := hj.lt
  have hb := hd.all.1
  refine ⟨hmw, by omega, hj.pos, ?_⟩
  rcases hj.kind with ⟨k1, k2, k3, k4, k5⟩ | ⟨k1, k2, k3, k4, k5⟩
  · have : a + roomAt g.pages a ≤ 16 * ((j : Int) + 2) := k4
    omega
  · have k4 : a = 16 * ((j : Int) + 1) := k4
    have k5 : roomAt g.pages a = (g.pages.getD j default).arg * 16 := k5
    unfold sizeP at hb
    rw [if_pos k1] at hb
    omega

theorem freeW_len {g : Hp} {a : Int} (h : headE g a = 0) : (freeW g a).length = g.w.length := by
  obtain ⟨_, z2, z3, z4⟩ := head_room h
  unfold freeW splice
  simp
  omega

end Go.Abs

namespace Go.Abs
set_option maxRecDepth 8000

theorem pigeon {l m : List Int} (h : l.Nodup) (hs : ∀ x ∈ l, x ∈ m) (hl : m.length ≤ l.length) : ∀ y ∈ m, y ∈ l := by
  intro y hy
  apply Classical.byContradiction
  intro hn
  have := nodup_le (m := m.erase y) h fun x hx => (List.mem_erase_of_ne (fun e : x = y => hn (e ▸ hx))).2 (hs x hx)
  rw [List.length_erase_of_mem hy] at this
  have := List.length_pos_of_mem hy
  omega

theorem may_no {g : Hp} {cs : List Lists} (h : mayH g cs = true) : mayH g [] = true := by
  obtain ⟨h1, h2, h3, h4⟩ := mayH_of h
  refine mayH_mk h1 (fun l hl => h2 l ?_) h3 ?_
  · rw [List.mem_singleton.1 hl]; exact List.mem_cons_self ..
  · have e : flats (g.free :: cs) = flats [g.free] ++ flats cs := by unfold flats; simp
    rw [e] at h4
    exact (List.nodup_append.1 h4).1

/-! Lists by their classes. -/
theorem listedB_iff {h : Hp} {l : Lists} : listedB h l = true ↔ ∀ d : Int, 0 ≤ d → d ≤ 2 → ∀ x ∈ l.at_ d, freeB h d x = true := by
  unfold listedB
  simp only [Bool.and_eq_true, List.all_eq_true]
  constructor
  · rintro ⟨h0, h1, h2⟩ d hd0 hd2 x hx
    have : d = 0 ∨ d = 1 ∨ d = 2 := by omega
    rcases this with rfl | rfl | rfl
    · exact h0 x hx
    · exact h1 x hx
    · exact h2 x hx
  · intro h
    exact ⟨h 0 (by omega) (by omega), h 1 (by omega) (by omega), h 2 (by omega) (by omega)⟩

theorem mem_flat {l : Lists} {x : Int} : x ∈ l.flat ↔ ∃ d : Int, 0 ≤ d ∧ d ≤ 2 ∧ x ∈ l.at_ d := by
  unfold Lists.flat
  simp only [List.mem_append]
  constructor
  · rintro ((h | h) | h)
    · exact ⟨0, by omega, by omega, h⟩
    · exact ⟨1, by omega, by omega, h⟩
    · exact ⟨2, by omega, by omega, h⟩
  · rintro ⟨d, h1, h2, h⟩
    have : d = 0 ∨ d = 1 ∨ d = 2 := by omega
    rcases this with rfl | rfl | rfl
    · exact .inl (.inl h)
    · exact .inl (.inr h)
    · exact .inr h

theorem at_set {l : Lists} {c d : Int} {x : List Int} (hc : 0 ≤ c ∧ c ≤ 2) (hd : 0 ≤ d ∧ d ≤ 2) : (l.set_ c x).at_ d = if d = c then x else l.at_ d := by
  have h1 : c = 0 ∨ c = 1 ∨ c = 2 := by omega
  have h2 : d = 0 ∨ d = 1 ∨ d = 2 := by omega
  rcases h1 with rfl | rfl | rfl <;> rcases h2 with rfl | rfl | rfl <;> rfl

theorem set_sub {l : Lists} {c : Int} {x : List Int} (hc : 0 ≤ c ∧ c ≤ 2) (h : x.Sublist (l.at_ c)) : (l.set_ c x).flat.Sublist l.flat := by
  have h1 : c = 0 ∨ c = 1 ∨ c = 2 := by omega
  rcases h1 with rfl | rfl | rfl
  · exact (List.Sublist.append (List.Sublist.append h (List.Sublist.refl _)) (List.Sublist.refl _))
  · exact (List.Sublist.append (List.Sublist.append (List.Sublist.refl _) h) (List.Sublist.refl _))
  · exact (List.Sublist.append (List.Sublist.append (List.Sublist.refl _) (List.Sublist.refl _)) h)

theorem set_perm {l : Lists} {c a : Int} (hc : 0 ≤ c ∧ c ≤ 2) : (l.set_ c (l.at_ c ++ [a])).flat.Perm (a :: l.flat) := by
  have h1 : c = 0 ∨ c = 1 ∨ c = 2 := by omega
  rcases h1 with rfl | rfl | rfl
  · show ((l.l0 ++ [a]) ++ l.l1 ++ l.l2).Perm (a :: (l.l0 ++ l.l1 ++ l.l2))
    simp only [List.append_assoc, List.singleton_append]
    exact List.perm_middle
  · show ((l.l0 ++ (l.l1 ++ [a])) ++ l.l2).Perm (a :: (l.l0 ++ l.l1 ++ l.l2))
    simp only [List.append_assoc, List.singleton_append]
    rw [← List.append_assoc, ← List.append_assoc]
    exact List.perm_middle
  · show (l.l0 ++ l.l1 ++ (l.l2 ++ [a])).Perm (a :: (l.l0 ++ l.l1 ++ l.l2))
    rw [← List.append_assoc]
    exact List.perm_append_singleton _ _

/-! Cells do not overlap. -/
theorem cell_end {l : List Page} {x : Int × Int} (h : x ∈ cellsAll l) : 16 ≤ x.1 ∧ 0 < x.2 ∧ x.1 + x.2 ≤ 16 * ((l.length : Int) + 1) := by
  obtain ⟨hmp, j, hj⟩ := cellOf_mem h
  have h1 := hj.lo
  have h2 := hj.hi
  have h3 := hj.lt
  refine ⟨by omega, hj.pos, ?_⟩
  rcases hj.kind with ⟨k1, k2, k3, k4, k5⟩ | ⟨k1, k2, k3, k4, k5⟩
  · omega
  · have hb := (Drops.all ⟨hmp, h3, .inr k1⟩).1
    unfold sizeP at hb
    rw [if_pos k1] at hb
    omega

theorem cells_once {l : List Page} {x y : Int × Int} (hx : x ∈ cellsAll l) (hy : y ∈ cellsAll l) {p : Int} (h1 : x.1 ≤ p ∧ p < x.1 + x.2) (h2 : y.1 ≤ p ∧ p < y.1 + y.2) : x = y := by
  obtain ⟨hmp, _⟩ := cellOf_mem hx
  obtain ⟨e1, _, e3⟩ := cell_end hx
  have ht := tile l 0 0 (by unfold mayP at hmp; rw [Bool.and_eq_true] at hmp; exact hmp.1) (Int.le_refl _) (fun p hp => by
    obtain ⟨i, hi, e⟩ := List.mem_iff_getElem.1 hp
    have := (mayP_ok hmp).1 i hi
    rw [List.getD_eq_getElem?_getD, List.getElem?_eq_getElem hi] at this
    rw [← e]; exact this) p (by omega) (by omega)
  have e0 : cellsAll l = cellsRec 0 l := by
    unfold cellsAll
    rw [if_pos hmp, cellsRec_from l _ 0 rfl]
    rfl
  rw [← e0] at ht
  have hc : ((cellsAll l).filter (inCell p)).length ≤ 1 := by unfold cnt at ht; omega
  have m1 : x ∈ (cellsAll l).filter (inCell p) := List.mem_filter.2 ⟨hx, decide_eq_true h1⟩
  have m2 : y ∈ (cellsAll l).filter (inCell p) := List.mem_filter.2 ⟨hy, decide_eq_true h2⟩
  generalize (cellsAll l).filter (inCell p) = L at hc m1 m2
  match L, hc, m1, m2 with
  | [], _, m1, _ => cases m1
  | [z], _, m1, m2 => rw [List.mem_singleton.1 m1, List.mem_singleton.1 m2]
  | _ :: _ :: _, hc, _, _ => simp at hc

theorem apart {l : List Page} {a u f : Int} (ha : roomAt l a ≠ 0) (hu : roomAt l u ≠ 0) (hne : u ≠ a) (hf : 0 ≤ f ∧ f < roomAt l u) : ¬ (a ≤ u + f ∧ u + f < a + roomAt l a) := by
  intro h
  have := cells_once (roomAt_pos ha) (roomAt_pos hu) (p := u + f) h ⟨by show u ≤ _; omega, by show _ < u + _; omega⟩
  exact hne (congrArg Prod.fst this).symm

/-! Words that are noughts. -/
theorem word_free {g : Hp} {a u : Int} (h : headE g a = 0) (hu : 16 ≤ u) (p : List Page) (f : Lists) (cd : List Bool) : wordAt ⟨freeW g a, p, f, cd⟩ u = if a ≤ u ∧ u < a + roomAt g.pages a then 0 else wordAt g u := by
  obtain ⟨_, z2, z3, z4⟩ := head_room h
  show at0 (freeW g a) (u - 16).toNat = _
  unfold freeW splice wordAt
  rw [at0_app, at0_app]
  simp only [List.length_append, List.length_take, List.length_replicate]
  by_cases c1 : u < a
  · rw [if_pos (by omega), if_pos (by omega), if_neg (by omega), at0_take _ _ _ (by omega)]
  · by_cases c2 : u < a + roomAt g.pages a
    · rw [if_pos (by omega), if_neg (by omega), if_pos ⟨by omega, c2⟩]
      unfold at0
      rw [List.getD_eq_getElem?_getD, List.getElem?_replicate]
      split <;> rfl
    · rw [if_neg (by omega), if_neg (by omega), at0_drop]
      congr 1
      omega

theorem word_at {g : Hp} {a u f : Int} (h : headE g a = 0) (hu : roomAt g.pages u ≠ 0) (hne : u ≠ a) (hf : 0 ≤ f ∧ f < roomAt g.pages u) (p : List Page) (fr : Lists) (cd : List Bool) : wordAt ⟨freeW g a, p, fr, cd⟩ (u + f) = wordAt g (u + f) := by
  rw [word_free h (by have := (cell_end (roomAt_pos hu)).1; have : 16 ≤ u := this; omega), if_neg (apart (headE_of h).2.1 hu hne hf)]
theorem word_at0 {g : Hp} {a u : Int} (h : headE g a = 0) (hu : roomAt g.pages u ≠ 0) (hne : u ≠ a) (p : List Page) (fr : Lists) (cd : List Bool) : wordAt ⟨freeW g a, p, fr, cd⟩ u = wordAt g u := by
  have := word_at h hu hne (f := 0) ⟨Int.le_refl _, by have := (cell_end (roomAt_pos hu)).2.1; exact this⟩ p fr cd
  rwa [Int.add_zero] at this
theorem word_self {g : Hp} {a : Int} (h : headE g a = 0) (p : List Page) (fr : Lists) (cd : List Bool) : wordAt ⟨freeW g a, p, fr, cd⟩ a = 0 := by
  obtain ⟨_, z2, z3, z4⟩ := head_room h
  rw [word_free h z2, if_pos ⟨Int.le_refl _, by omega⟩]
end Go.Abs

namespace Go.Abs
set_option maxRecDepth 8000

theorem start_cell {l : List Page} {u : Int} (h : u ∈ cellStarts l) : ∃ j : Nat, CellOf l (u, roomAt l u) j ∧ u / 16 - 1 = (j : Int) := by
  obtain ⟨_, j, hj⟩ := cellOf_mem (roomAt_pos (mem_starts.1 h))
  exact ⟨j, hj, hj.div⟩

theorem drop_page {h : Hp} {i : Nat} (hd : Drops h.pages i) {u : Int} (hu : u ∈ cellStarts h.pages) (hi : u / 16 - 1 ≠ (i : Int)) (w : List Int) (F : Lists) (cd : List Bool) : pageAt ⟨w, dropP h.pages i, F, cd⟩ u = pageAt h u := by
  obtain ⟨j, hj, e⟩ := start_cell hu
  unfold pageAt
  show (dropP h.pages i).getD (u / 16 - 1).toNat default = _
  rw [e, Int.toNat_natCast]
  refine hd.keep (by omega) ?_
  rcases hj.kind with k | k <;> omega

theorem drop_keeps {h : Hp} {i : Nat} {F : Lists} {cs : List Lists} (hs : shapedH h = true) (hd : Drops h.pages i) (hz : ∀ u ∈ cellStarts h.pages, u / 16 - 1 = (i : Int) → wordAt h u = 0)
    (hl : ∀ l ∈ F :: cs, ∀ d : Int, 0 ≤ d → d ≤ 2 → ∀ x ∈ l.at_ d, freeB h d x = true ∧ x / 16 - 1 ≠ (i : Int)) (hc : ∀ u ∈ cellStarts h.pages, u / 16 - 1 ≠ (i : Int) → cellB h u = true) (hn : (flats (F :: cs)).Nodup) :
    mayH ⟨h.w, dropP h.pages i, F, h.cards⟩ cs = true ∧ ((∀ u ∈ cellStarts h.pages, u / 16 - 1 ≠ (i : Int) → wordAt h u ≠ 0 ∨ u ∈ flats (F :: cs)) → wholeH ⟨h.w, dropP h.pages i, F, h.cards⟩ cs = true) ∧
    usedH ⟨h.w, dropP h.pages i, F, h.cards⟩ = (cellStarts h.pages).filter fun u => wordAt h u != 0 := by
  have hw : ∀ u, wordAt ⟨h.w, dropP h.pages i, F, h.cards⟩ u = wordAt h u := fun _ => rfl
  have hst : ∀ u, u ∈ cellStarts (dropP h.pages i) ↔ u ∈ cellStarts h.pages ∧ u / 16 - 1 ≠ (i : Int) := fun u => by rw [hd.starts, List.mem_filter, decide_eq_true_eq]
  have hm : mayH ⟨h.w, dropP h.pages i, F, h.cards⟩ cs = true := by
    refine mayH_mk ?_ ?_ ?_ hn
    · obtain ⟨a1, a2, a3, a4, _⟩ := shapedH_of hs
      unfold shapedH
      rw [a1, hd.may']
      show (true && (true && decide (h.w.length = 16 * (dropP h.pages i).length ∧ h.cards.length = 2 * (dropP h.pages i).length))) = true
      rw [hd.len, decide_eq_true ⟨a3, a4⟩]
      rfl
    · intro l hll
      refine listedB_iff.2 fun d h0 h2 x hx => ?_
      obtain ⟨k1, k2⟩ := hl l hll d h0 h2 x hx
      obtain ⟨r1, r2, r3⟩ := (of_decide_eq_true k1 : 0 < roomAt h.pages x ∧ pageAt h x = ⟨1, d⟩ ∧ wordAt h x = 0)
      have hx := mem_starts.2 (show roomAt h.pages x ≠ 0 by omega)
      refine decide_eq_true ⟨?_, ?_, r3⟩
      · show 0 < roomAt (dropP h.pages i) x
        rw [hd.room, if_neg k2]; exact r1
      · rw [drop_page hd hx k2]; exact r2
    · intro u hu
      obtain ⟨u1, u2⟩ := (hst u).1 hu
      have := hc u u1 u2
      unfold cellB at this ⊢
      rw [drop_page hd u1 u2, hw]
      exact this
  refine ⟨hm, fun hwh => ?_, ?_⟩
  · unfold wholeH
    rw [hm, Bool.true_and, List.all_eq_true]
    intro u hu
    obtain ⟨u1, u2⟩ := (hst u).1 hu
    rw [hw, Bool.or_eq_true]
    rcases hwh u u1 u2 with k | k
    · exact .inl (by simpa using k)
    · exact .inr (List.contains_iff_mem.2 k)
  · rw [usedH_eq (may_no hm)]
    show (cellStarts (dropP h.pages i)).filter (fun u => wordAt h u != 0) = _
    rw [hd.starts, List.filter_filter]
    apply List.filter_congr
    intro u hu
    by_cases e : u / 16 - 1 = (i : Int)
    · rw [hz u hu e]; rfl
    · rw [decide_eq_true e, Bool.and_true]

/-- What is left when an object's room is given back. -/
structure Freed (g k : Hp) (a : Int) (cs : List Lists) : Prop where
  may : mayH k cs = true
  whole : wholeH g cs = true → wholeH k cs = true
  used : usedH k = (usedH g).filter fun u => decide (u ≠ a)
  cards : k.cards = g.cards
  wlen : k.w.length = g.w.length
  plen : k.pages.length = g.pages.length
  word : ∀ u, u ≠ a → roomAt g.pages u ≠ 0 → ∀ f, 0 ≤ f → f < roomAt g.pages u → wordAt k (u + f) = wordAt g (u + f)
  room : ∀ u, roomAt k.pages u ≠ 0 → roomAt k.pages u = roomAt g.pages u
  starts : (cellStarts k.pages).Sublist (cellStarts g.pages)

theorem head_word {g : Hp} {cs : List Lists} (hm : mayH g cs = true) {a : Int} (h : headE g a = 0) : wordAt g a ≠ 0 := by
  have := mem_usedH.2 h
  rw [usedH_eq (may_no hm), List.mem_filter] at this
  simpa using this.2

theorem used_drop {g : Hp} {cs : List Lists} (hm : mayH g cs = true) {a : Int} (h : headE g a = 0) (fr : Lists) (cd : List Bool) :
    (cellStarts g.pages).filter (fun u => wordAt ⟨freeW g a, g.pages, fr, cd⟩ u != 0) = (usedH g).filter fun u => decide (u ≠ a) := by
  rw [usedH_eq (may_no hm), List.filter_filter]
  apply List.filter_congr
  intro u hu
  by_cases e : u = a
  · subst e
    rw [word_self h, decide_eq_false (fun k => k rfl)]; rfl
  · rw [word_at0 h (mem_starts.1 hu) e, decide_eq_true e, Bool.true_and]

/-- A large one. -/
theorem freed_large {g : Hp} {cs : List Lists} (hm : mayH g cs = true) {a : Int} (h : headE g a = 0) (hk : (g.pages.getD (pgI a).toNat default).kind = 2) :
    Freed g ⟨freeW g a, dropP g.pages (pgI a).toNat, g.free, g.cards⟩ a cs := by
  obtain ⟨m1, m2, m3, m4⟩ := mayH_of hm
  obtain ⟨hn0, hd⟩ := head_drops h
  have ei : ((pgI a).toNat : Int) = pgI a := by omega
  have hr := (headE_of h).2.1
  have hpg : ∀ u ∈ cellStarts g.pages, u / 16 - 1 = ((pgI a).toNat : Int) → u = a := by
    intro u hu e
    obtain ⟨j, hj, ej⟩ := start_cell hu
    obtain ⟨j', hj', ej'⟩ := start_cell (mem_starts.2 hr)
    have e2 : j = (pgI a).toNat := by omega
    have e3 : j' = (pgI a).toNat := by unfold pgI at *; omega
    subst e2
    rw [e3] at hj'
    have k1 : u = 16 * (((pgI a).toNat : Int) + 1) := by rcases hj.kind with k | k; omega; exact k.2.2.2.1
    have k2 : a = 16 * (((pgI a).toNat : Int) + 1) := by rcases hj'.kind with k | k; omega; exact k.2.2.2.1
    omega
  have hst : ∀ l ∈ g.free :: cs, ∀ d : Int, 0 ≤ d → d ≤ 2 → ∀ x ∈ l.at_ d, 0 < roomAt g.pages x ∧ pageAt g x = ⟨1, d⟩ ∧ wordAt g x = 0 := fun l hl d h0 h2 x hx => of_decide_eq_true (listedB_iff.1 (m2 l hl) d h0 h2 x hx)
  have key := drop_keeps (h := ⟨freeW g a, g.pages, g.free, g.cards⟩) (i := (pgI a).toNat) (F := g.free) (cs := cs) ?_ hd ?_ ?_ ?_ m4
  · obtain ⟨k1, k2, k3⟩ := key
    refine ⟨k1, fun hwh => k2 fun u hu e => ?_, k3.trans (used_drop hm h _ _), rfl, freeW_len h, hd.len, fun u hne hu f f0 f1 => word_at h hu hne ⟨f0, f1⟩ _ _ _, fun u hu => ?_, ?_⟩
    · have hne : u ≠ a := fun k => by subst k; exact e (by unfold pgI; unfold pgI at ei; omega)
      rw [word_at0 h (mem_starts.1 hu) hne]
      unfold wholeH at hwh
      rw [hm, Bool.true_and, List.all_eq_true] at hwh
      have := hwh u hu
      rw [Bool.or_eq_true] at this
      rcases this with k | k
      · exact .inl (by simpa using k)
      · exact .inr (List.contains_iff_mem.1 k)
    · have := hd.room u
      show roomAt (dropP g.pages (pgI a).toNat) u = _
      rw [this]
      split
      · rename_i e
        exact absurd (show roomAt (dropP g.pages (pgI a).toNat) u = 0 by rw [this, if_pos e]) hu
      · rfl
    · show (cellStarts (dropP g.pages (pgI a).toNat)).Sublist _
      rw [hd.starts]; exact List.filter_sublist
  · obtain ⟨a1, a2, a3, a4, _⟩ := shapedH_of m1
    have e : (freeW g a).length = g.w.length := freeW_len h
    unfold shapedH
    show (mayW (freeW g a) && (mayP g.pages && decide ((freeW g a).length = 16 * g.pages.length ∧ g.cards.length = 2 * g.pages.length))) = true
    unfold mayW at a1 ⊢
    rw [e, a1, a2, decide_eq_true ⟨a3, a4⟩]; rfl
  · intro u hu e
    rw [hpg u hu e]; exact word_self h _ _ _
  · intro l hl d h0 h2 x hx
    obtain ⟨r1, r2, r3⟩ := hst l hl d h0 h2 x hx
    have hne : x ≠ a := fun k => head_word hm h (by rw [← k]; exact r3)
    refine ⟨decide_eq_true ⟨r1, r2, ?_⟩, fun e => hne (hpg x (mem_starts.2 (by omega)) e)⟩
    rw [word_at0 h (by omega) hne]; exact r3
  · intro u hu e
    have hne : u ≠ a := fun k => by subst k; exact e (by unfold pgI; unfold pgI at ei; omega)
    have := m3 u hu
    unfold cellB at this ⊢
    rw [word_at0 h (mem_starts.1 hu) hne]
    exact this
end Go.Abs

namespace Go.Abs
set_option maxRecDepth 8000

/-- What a cell is pushed to. -/
abbrev pushedH (g : Hp) (a : Int) : Hp := pushH { g with w := freeW g a } (pgI a) a

theorem freed_push {g : Hp} {cs : List Lists} (hm : mayH g cs = true) {a : Int} (h : headE g a = 0) (hk : (g.pages.getD (pgI a).toNat default).kind = 1) : Freed g (pushedH g a) a cs := by
  obtain ⟨m1, m2, m3, m4⟩ := mayH_of hm
  obtain ⟨hn0, hd⟩ := head_drops h
  have hr := (headE_of h).2.1
  have hc := ((mayP_ok hd.may).1 _ hd.lt).1 hk
  have hp : pageAt g a = ⟨1, (g.pages.getD (pgI a).toNat default).arg⟩ := by
    show g.pages.getD (pgI a).toNat default = _
    generalize g.pages.getD (pgI a).toNat default = p at hk
    cases p; cases hk; rfl
  have hst : ∀ l ∈ g.free :: cs, ∀ d : Int, 0 ≤ d → d ≤ 2 → ∀ x ∈ l.at_ d, 0 < roomAt g.pages x ∧ pageAt g x = ⟨1, d⟩ ∧ wordAt g x = 0 := fun l hl d h0 h2 x hx => of_decide_eq_true (listedB_iff.1 (m2 l hl) d h0 h2 x hx)
  have hkeep : ∀ l ∈ g.free :: cs, ∀ d : Int, 0 ≤ d → d ≤ 2 → ∀ x ∈ l.at_ d, freeB (pushedH g a) d x = true := by
    intro l hl d h0 h2 x hx
    obtain ⟨r1, r2, r3⟩ := hst l hl d h0 h2 x hx
    have hne : x ≠ a := fun k => head_word hm h (by rw [← k]; exact r3)
    refine decide_eq_true ⟨r1, r2, ?_⟩
    exact (word_at0 h (by omega) hne _ _ _).trans r3
  have hperm : (flats ((pushedH g a).free :: cs)).Perm (a :: flats (g.free :: cs)) := by
    show ((g.free.set_ _ (g.free.at_ _ ++ [a])).flat ++ flats cs).Perm (a :: (g.free.flat ++ flats cs))
    exact (set_perm hc).append_right _
  have hna : a ∉ flats (g.free :: cs) := by
    intro k
    obtain ⟨l, hl, hx⟩ := mem_flats.1 k
    exact head_word hm h (listed_free (m2 l hl) hx).2
  have hmay : mayH (pushedH g a) cs = true := by
    refine mayH_mk ?_ ?_ ?_ (hperm.nodup_iff.2 (List.nodup_cons.2 ⟨hna, m4⟩))
    · obtain ⟨a1, a2, a3, a4, _⟩ := shapedH_of m1
      have e : (freeW g a).length = g.w.length := freeW_len h
      unfold shapedH
      show (mayW (freeW g a) && (mayP g.pages && decide ((freeW g a).length = 16 * g.pages.length ∧ g.cards.length = 2 * g.pages.length))) = true
      unfold mayW at a1 ⊢
      rw [e, a1, a2, decide_eq_true ⟨a3, a4⟩]; rfl
    · intro l hl
      rcases List.mem_cons.1 hl with rfl | hl
      · refine listedB_iff.2 fun d h0 h2 x hx => ?_
        have hx : x ∈ (g.free.set_ (g.pages.getD (pgI a).toNat default).arg (g.free.at_ (g.pages.getD (pgI a).toNat default).arg ++ [a])).at_ d := hx
        rw [at_set hc ⟨h0, h2⟩] at hx
        split at hx
        · rename_i e
          rcases List.mem_append.1 hx with hx | hx
          · exact hkeep g.free (List.mem_cons_self ..) d h0 h2 x (by rw [e]; exact hx)
          · rw [List.mem_singleton.1 hx]
            exact decide_eq_true ⟨by have := roomAt_nonneg g.pages a; show 0 < roomAt g.pages a; omega, by rw [e]; exact hp, word_self h _ _ _⟩
        · exact hkeep g.free (List.mem_cons_self ..) d h0 h2 x hx
      · exact listedB_iff.2 fun d h0 h2 x hx => hkeep l (List.mem_cons_of_mem _ hl) d h0 h2 x hx
    · intro u hu
      have hu : u ∈ cellStarts g.pages := hu
      by_cases e : u = a
      · subst e
        unfold cellB
        rw [show wordAt (pushedH g u) u = 0 from word_self h _ _ _, show pageAt (pushedH g u) u = pageAt g u from rfl, hp, show isHd 0 = true by decide, show (unp 0).used = false by decide]
        rfl
      · have := m3 u hu
        unfold cellB at this ⊢
        rw [show wordAt (pushedH g a) u = wordAt g u from word_at0 h (mem_starts.1 hu) e _ _ _]
        exact this
  refine ⟨hmay, fun hwh => ?_, ?_, rfl, freeW_len h, rfl, fun u hne hu f f0 f1 => word_at h hu hne ⟨f0, f1⟩ _ _ _, fun u hu => rfl, List.Sublist.refl _⟩
  · unfold wholeH
    rw [hmay, Bool.true_and, List.all_eq_true]
    intro u hu
    have hu : u ∈ cellStarts g.pages := hu
    rw [Bool.or_eq_true]
    by_cases e : u = a
    · exact .inr (List.contains_iff_mem.2 (hperm.mem_iff.2 (by rw [e]; exact List.mem_cons_self ..)))
    · rw [show wordAt (pushedH g a) u = wordAt g u from word_at0 h (mem_starts.1 hu) e _ _ _]
      unfold wholeH at hwh
      rw [hm, Bool.true_and, List.all_eq_true] at hwh
      have := hwh u hu
      rw [Bool.or_eq_true] at this
      rcases this with k | k
      · exact .inl k
      · exact .inr (List.contains_iff_mem.2 (hperm.mem_iff.2 (List.mem_cons_of_mem _ (List.contains_iff_mem.1 k))))
  · rw [usedH_eq (may_no hmay)]
    exact used_drop hm h _ _

theorem outs_eq (g : Hp) (i : Int) : outsH g i = (g.free.at_ (g.pages.getD i.toNat default).arg).filter (inP (16 * (i + 1)) (16 * (i + 1) + 16)) := by
  unfold outsH outOf; rw [List.take_length]
theorem stays_eq (g : Hp) (i : Int) : staysH g i = (g.free.at_ (g.pages.getD i.toNat default).arg).filter fun x => !inP (16 * (i + 1)) (16 * (i + 1) + 16) x := by
  unfold staysH stayOf; rw [List.take_length]
theorem inP_page {i x : Int} : inP (16 * (i + 1)) (16 * (i + 1) + 16) x = decide (x / 16 - 1 = i) := by
  unfold inP
  rw [← Bool.decide_and]
  exact decide_eq_decide.2 (by omega)

/-- Where the cells of a small page begin. -/
def onPage (p : Page) (i : Int) : List Int := (List.range (clsN p.arg).toNat).map fun k : Nat => 16 * (i + 1) + (k : Int) * clsW p.arg

theorem mem_onPage {l : List Page} {u : Int} {i : Nat} (hu : u ∈ cellStarts l) (e : u / 16 - 1 = (i : Int)) (hk : (l.getD i default).kind = 1) : u ∈ onPage (l.getD i default) i := by
  obtain ⟨j, hj, ej⟩ := start_cell hu
  have : j = i := by omega
  subst this
  obtain ⟨hmp, _⟩ := cellOf_mem (roomAt_pos (mem_starts.1 hu))
  rcases mem_cellsOn ((mayP_ok hmp).1 j hj.lt) hj.mem with ⟨_, _, k, k1, k2⟩ | ⟨k, _⟩
  · have k2 : u = 16 * ((j : Int) + 1) + (k : Int) * clsW (l.getD j default).arg := k2
    refine List.mem_map.2 ⟨k, List.mem_range.2 (by omega), k2.symm⟩
  · omega

/-- What is free on a page is no more than its cells; if it is all of these, each of them is there. -/
theorem outs_all {g : Hp} {cs : List Lists} (hm : mayH g cs = true) {i : Int} (h0 : 0 ≤ i) (hd : Drops g.pages i.toNat) (hk : (g.pages.getD i.toNat default).kind = 1) :
    ((outsH g i).length : Int) ≤ clsN (g.pages.getD i.toNat default).arg ∧ (((outsH g i).length : Int) = clsN (g.pages.getD i.toNat default).arg → ∀ u ∈ cellStarts g.pages, u / 16 - 1 = i → u ∈ outsH g i) := by
  obtain ⟨m1, m2, m3, m4⟩ := mayH_of hm
  have hc := ((mayP_ok hd.may).1 _ hd.lt).1 hk
  have ei : ((i.toNat : Nat) : Int) = i := by omega
  have hN := clsWN hc
  have hlen : ((onPage (g.pages.getD i.toNat default) i).length : Int) = clsN (g.pages.getD i.toNat default).arg := by
    unfold onPage; rw [List.length_map, List.length_range]; rcases hN with k | k | k <;> omega
  have hnd : (outsH g i).Nodup := by
    rw [outs_eq]
    apply List.Nodup.sublist List.filter_sublist
    have e : flats (g.free :: cs) = g.free.flat ++ flats cs := rfl
    rw [e] at m4
    have := (List.nodup_append.1 m4).1
    have hc' : (g.pages.getD i.toNat default).arg = 0 ∨ (g.pages.getD i.toNat default).arg = 1 ∨ (g.pages.getD i.toNat default).arg = 2 := by omega
    unfold Lists.flat at this
    rcases hc' with e | e | e <;> rw [e]
    · exact (List.nodup_append.1 (List.nodup_append.1 this).1).1
    · exact (List.nodup_append.1 (List.nodup_append.1 this).1).2.1
    · exact (List.nodup_append.1 this).2.1
  have hsub : ∀ x ∈ outsH g i, x ∈ onPage (g.pages.getD i.toNat default) i := by
    intro x hx
    rw [outs_eq, List.mem_filter, inP_page, decide_eq_true_eq] at hx
    obtain ⟨r1, _⟩ := (of_decide_eq_true (listedB_iff.1 (m2 g.free (List.mem_cons_self ..)) _ hc.1 hc.2 x hx.1) : 0 < roomAt g.pages x ∧ _)
    have := mem_onPage (i := i.toNat) (mem_starts.2 (show roomAt g.pages x ≠ 0 by omega)) (by omega) hk
    rw [ei] at this; exact this
  have hle := nodup_le hnd hsub
  refine ⟨by omega, fun he u hu e => ?_⟩
  refine pigeon hnd hsub (by omega) u ?_
  have := mem_onPage (i := i.toNat) hu (by omega) hk
  rw [ei] at this; exact this

theorem back_keeps {g : Hp} {cs : List Lists} (hm : mayH g cs = true) {i : Int} (h0 : 0 ≤ i) (hd : Drops g.pages i.toNat) (hk : (g.pages.getD i.toNat default).kind = 1) :
    mayH (backH g i) cs = true ∧ (wholeH g cs = true → wholeH (backH g i) cs = true) ∧ usedH (backH g i) = usedH g ∧ (backH g i).cards = g.cards ∧ (backH g i).w = g.w ∧ (backH g i).pages.length = g.pages.length ∧ (∀ u, roomAt (backH g i).pages u ≠ 0 → roomAt (backH g i).pages u = roomAt g.pages u) ∧ (cellStarts (backH g i).pages).Sublist (cellStarts g.pages) := by
  unfold backH
  split
  case isFalse => exact ⟨hm, id, rfl, rfl, rfl, rfl, fun _ _ => rfl, List.Sublist.refl _⟩
  rename_i hn
  obtain ⟨m1, m2, m3, m4⟩ := mayH_of hm
  have hc := ((mayP_ok hd.may).1 _ hd.lt).1 hk
  have ei : ((i.toNat : Nat) : Int) = i := by omega
  have hall := (outs_all hm h0 hd hk).2 hn
  have hst : ∀ l ∈ g.free :: cs, ∀ d : Int, 0 ≤ d → d ≤ 2 → ∀ x ∈ l.at_ d, 0 < roomAt g.pages x ∧ pageAt g x = ⟨1, d⟩ ∧ wordAt g x = 0 := fun l hl d h0 h2 x hx => of_decide_eq_true (listedB_iff.1 (m2 l hl) d h0 h2 x hx)
  have harg : ∀ l ∈ g.free :: cs, ∀ d : Int, 0 ≤ d → d ≤ 2 → ∀ x ∈ l.at_ d, x / 16 - 1 = i → d = (g.pages.getD i.toNat default).arg := by
    intro l hl d d0 d2 x hx e
    obtain ⟨_, r2, _⟩ := hst l hl d d0 d2 x hx
    unfold pageAt at r2
    rw [e] at r2
    rw [r2]
  have hof : ∀ u ∈ cellStarts g.pages, u / 16 - 1 = i → u ∈ g.free.at_ (g.pages.getD i.toNat default).arg ∧ u ∈ g.free.flat := by
    intro u hu e
    have := hall u hu e
    rw [outs_eq, List.mem_filter] at this
    exact ⟨this.1, mem_flat.2 ⟨_, hc.1, hc.2, this.1⟩⟩
  have hsub : (flats (g.free.set_ (g.pages.getD i.toNat default).arg (staysH g i) :: cs)).Sublist (flats (g.free :: cs)) := by
    show ((g.free.set_ _ (staysH g i)).flat ++ flats cs).Sublist (g.free.flat ++ flats cs)
    exact (set_sub hc (by rw [stays_eq]; exact List.filter_sublist)).append (List.Sublist.refl _)
  have key := drop_keeps (h := g) (i := i.toNat) (F := g.free.set_ (g.pages.getD i.toNat default).arg (staysH g i)) (cs := cs) m1 hd ?_ ?_ (fun u hu _ => m3 u hu) (m4.sublist hsub)
  · obtain ⟨k1, k2, k3⟩ := key
    refine ⟨k1, fun hwh => k2 fun u hu e => ?_, k3.trans (usedH_eq (may_no hm)).symm, rfl, rfl, hd.len, fun u hu => ?_, ?_⟩
    · unfold wholeH at hwh
      rw [hm, Bool.true_and, List.all_eq_true] at hwh
      have := hwh u hu
      rw [Bool.or_eq_true] at this
      rcases this with k | k
      · exact .inl (by simpa using k)
      · refine .inr ?_
        have k := List.contains_iff_mem.1 k
        have k : u ∈ g.free.flat ++ flats cs := k
        show u ∈ (g.free.set_ _ (staysH g i)).flat ++ flats cs
        rcases List.mem_append.1 k with k | k
        · refine List.mem_append.2 (.inl ?_)
          obtain ⟨d, d0, d2, hx⟩ := mem_flat.1 k
          refine mem_flat.2 ⟨d, d0, d2, ?_⟩
          rw [at_set hc ⟨d0, d2⟩]
          split
          · rename_i ed
            rw [stays_eq, List.mem_filter]
            exact ⟨by rw [← ed]; exact hx, by rw [inP_page, decide_eq_false (by omega)]; rfl⟩
          · exact hx
        · exact List.mem_append.2 (.inr k)
    · have := hd.room u
      show roomAt (dropP g.pages i.toNat) u = _
      rw [this]
      split
      · rename_i e
        exact absurd (show roomAt (dropP g.pages i.toNat) u = 0 by rw [this, if_pos e]) hu
      · rfl
    · show (cellStarts (dropP g.pages i.toNat)).Sublist _
      rw [hd.starts]; exact List.filter_sublist
  · intro u hu e
    obtain ⟨l, k⟩ := hof u hu (by omega)
    exact (hst g.free (List.mem_cons_self ..) _ hc.1 hc.2 u l).2.2
  · intro l hl d d0 d2 x hx
    rcases List.mem_cons.1 hl with rfl | hl
    · rw [at_set hc ⟨d0, d2⟩] at hx
      split at hx
      · rename_i ed
        rw [stays_eq, List.mem_filter, inP_page] at hx
        obtain ⟨x1, x2⟩ := hx
        refine ⟨listedB_iff.1 (m2 g.free (List.mem_cons_self ..)) d d0 d2 x (by rw [ed]; exact x1), fun e => ?_⟩
        rw [decide_eq_true (by omega)] at x2
        cases x2
      · rename_i ed
        exact ⟨listedB_iff.1 (m2 g.free (List.mem_cons_self ..)) d d0 d2 x hx, fun e => ed (harg g.free (List.mem_cons_self ..) d d0 d2 x hx (by omega))⟩
    · refine ⟨listedB_iff.1 (m2 l (List.mem_cons_of_mem _ hl)) d d0 d2 x hx, fun e => ?_⟩
      have hxs := mem_starts.2 (show roomAt g.pages x ≠ 0 by have := (hst l (List.mem_cons_of_mem _ hl) d d0 d2 x hx).1; omega)
      obtain ⟨_, k⟩ := hof x hxs (by omega)
      have e : flats (g.free :: cs) = g.free.flat ++ flats cs := rfl
      rw [e] at m4
      exact (List.nodup_append.1 m4).2.2 x k x (mem_flats.2 ⟨l, hl, mem_flat.2 ⟨d, d0, d2, hx⟩⟩) rfl

theorem freed {g : Hp} {cs : List Lists} (hm : mayH g cs = true) {a : Int} (h : headE g a = 0) : Freed g (freeH g a) a cs := by
  unfold freeH
  rw [if_pos h]
  split
  · rename_i hk
    exact freed_large hm h hk
  · rename_i hk
    obtain ⟨hn0, hd⟩ := head_drops h
    have hk1 := hd.kind.resolve_right hk
    have f := freed_push hm h hk1
    obtain ⟨b1, b2, b3, b4, b5, b6, b7, b8⟩ := back_keeps (g := pushedH g a) f.may hn0 hd hk1
    exact ⟨b1, fun k => b2 (f.whole k), b3.trans f.used, b4.trans f.cards, (congrArg List.length b5).trans f.wlen, b6.trans f.plen, fun u hne hu x x0 x1 => (show wordAt _ _ = wordAt (pushedH g a) (u + x) by unfold wordAt; rw [b5]).trans (f.word u hne hu x x0 x1), fun u hu => b7 u hu, b8⟩
end Go.Abs
