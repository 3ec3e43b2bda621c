/- What is let go keeps a heap whole, in plain Lean. -/
import Derived.Test.YtlmeebfippeepaaGreatDoorWFreeK
set_option linter.all false
set_option linter.unusedVariables false
set_option linter.unusedSimpArgs false
namespace Go.Abs
set_option maxRecDepth 8000

theorem pigeon {l m : List Int} (h : l.Nodup) (hs : ∀ x ∈ l, x ∈ m) (hl : m.length ≤ l.length) : ∀ y ∈ m, y ∈ l := by
  intro y hy
  apply Classical.byContradiction
  intro hn
  have := nodup_le (m := m.erase y) h fun x hx => (List.mem_erase_of_ne (fun e : x = y => hn (e ▸ hx))).2 (hs x hx)
  rw [List.length_erase_of_mem hy] at this
  have := List.length_pos_of_mem hy
  omega

theorem may_no {g : Hp} {cs : List Lists} (h : mayH g cs = true) : mayH g [] = true := by
  obtain ⟨h1, h2, h3, h4⟩ := mayH_of h
  refine mayH_mk h1 (fun l hl => h2 l ?_) h3 ?_
  · rw [List.mem_singleton.1 hl]; exact List.mem_cons_self ..
  · have e : flats (g.free :: cs) = flats [g.free] ++ flats cs := by unfold flats; simp
    rw [e] at h4
    exact (List.nodup_append.1 h4).1

/-! Lists by their classes. -/
theorem listedB_iff {h : Hp} {l : Lists} : listedB h l = true ↔ ∀ d : Int, 0 ≤ d → d ≤ 2 → ∀ x ∈ l.at_ d, freeB h d x = true := by
  unfold listedB
  simp only [Bool.and_eq_true, List.all_eq_true]
  constructor
  · rintro ⟨h0, h1, h2⟩ d hd0 hd2 x hx
    have : d = 0 ∨ d = 1 ∨ d = 2 := by omega
    rcases this with rfl | rfl | rfl
    · exact h0 x hx
    · exact h1 x hx
    · exact h2 x hx
  · intro h
    exact ⟨h 0 (by omega) (by omega), h 1 (by omega) (by omega), h 2 (by omega) (by omega)⟩

theorem mem_flat {l : Lists} {x : Int} : x ∈ l.flat ↔ ∃ d : Int, 0 ≤ d ∧ d ≤ 2 ∧ x ∈ l.at_ d := by
  unfold Lists.flat
  simp only [List.mem_append]
  constructor
  · rintro ((h | h) | h)
    · exact ⟨0, by omega, by omega, h⟩
    · exact ⟨1, by omega, by omega, h⟩
    · exact ⟨2, by omega, by omega, h⟩
  · rintro ⟨d, h1, h2, h⟩
    have : d = 0 ∨ d = 1 ∨ d = 2 := by omega
    rcases this with rfl | rfl | rfl
    · exact .inl (.inl h)
    · exact .inl (.inr h)
    · exact .inr h

theorem at_set {l : Lists} {c d : Int} {x : List Int} (hc : 0 ≤ c ∧ c ≤ 2) (hd : 0 ≤ d ∧ d ≤ 2) : (l.set_ c x).at_ d = if d = c then x else l.at_ d := by
  have h1 : c = 0 ∨ c = 1 ∨ c = 2 := by omega
  have h2 : d = 0 ∨ d = 1 ∨ d = 2 := by omega
  rcases h1 with rfl | rfl | rfl <;> rcases h2 with rfl | rfl | rfl <;> rfl

theorem set_sub {l : Lists} {c : Int} {x : List Int} (hc : 0 ≤ c ∧ c ≤ 2) (h : x.Sublist (l.at_ c)) : (l.set_ c x).flat.Sublist l.flat := by
  have h1 : c = 0 ∨ c = 1 ∨ c = 2 := by omega
  rcases h1 with rfl | rfl | rfl
  · exact (List.Sublist.append (List.Sublist.append h (List.Sublist.refl _)) (List.Sublist.refl _))
  · exact (List.Sublist.append (List.Sublist.append (List.Sublist.refl _) h) (List.Sublist.refl _))
  · exact (List.Sublist.append (List.Sublist.append (List.Sublist.refl _) (List.Sublist.refl _)) h)

theorem set_perm {l : Lists} {c a : Int} (hc : 0 ≤ c ∧ c ≤ 2) : (l.set_ c (l.at_ c ++ [a])).flat.Perm (a :: l.flat) := by
  have h1 : c = 0 ∨ c = 1 ∨ c = 2 := by omega
  rcases h1 with rfl | rfl | rfl
  · show ((l.l0 ++ [a]) ++ l.l1 ++ l.l2).Perm (a :: (l.l0 ++ l.l1 ++ l.l2))
    simp only [List.append_assoc, List.singleton_append]
    exact List.perm_middle
  · show ((l.l0 ++ (l.l1 ++ [a])) ++ l.l2).Perm (a :: (l.l0 ++ l.l1 ++ l.l2))
    simp only [List.append_assoc, List.singleton_append]
    rw [← List.append_assoc, ← List.append_assoc]
    exact List.perm_middle
  · show (l.l0 ++ l.l1 ++ (l.l2 ++ [a])).Perm (a :: (l.l0 ++ l.l1 ++ l.l2))
    rw [← List.append_assoc]
    exact List.perm_append_singleton _ _

/-! Cells do not overlap. -/
theorem cell_end {l : List Page} {x : Int × Int} (h : x ∈ cellsAll l) : 16 ≤ x.1 ∧ 0 < x.2 ∧ x.1 + x.2 ≤ 16 * ((l.length : Int) + 1) := by
  obtain ⟨hmp, j, hj⟩ := cellOf_mem h
  have h1 := hj.lo
  have h2 := hj.hi
  have h3 := hj.lt
  refine ⟨by omega, hj.pos, ?_⟩
  rcases hj.kind with ⟨k1, k2, k3, k4, k5⟩ | ⟨k1, k2, k3, k4, k5⟩
  · omega
  · have hb := (Drops.all ⟨hmp, h3, .inr k1⟩).1
    unfold sizeP at hb
    rw [if_pos k1] at hb
    omega

theorem cells_once {l : List Page} {x y : Int × Int} (hx : x ∈ cellsAll l) (hy : y ∈ cellsAll l) {p : Int} (h1 : x.1 ≤ p ∧ p < x.1 + x.2) (h2 : y.1 ≤ p ∧ p < y.1 + y.2) : x = y := by
  obtain ⟨hmp, _⟩ := cellOf_mem hx
  obtain ⟨e1, _, e3⟩ := cell_end hx
  have ht := tile l 0 0 (by unfold mayP at hmp; rw [Bool.and_eq_true] at hmp; exact hmp.1) (Int.le_refl _) (fun p hp => by
    obtain ⟨i, hi, e⟩ := List.mem_iff_getElem.1 hp
    have := (mayP_ok hmp).1 i hi
    rw [List.getD_eq_getElem?_getD, List.getElem?_eq_getElem hi] at this
    rw [← e]; exact this) p (by omega) (by omega)
  have e0 : cellsAll l = cellsRec 0 l := by
    unfold cellsAll
    rw [if_pos hmp, cellsRec_from l _ 0 rfl]
    rfl
  rw [← e0] at ht
  have hc : ((cellsAll l).filter (inCell p)).length ≤ 1 := by unfold cnt at ht; omega
  have m1 : x ∈ (cellsAll l).filter (inCell p) := List.mem_filter.2 ⟨hx, decide_eq_true h1⟩
  have m2 : y ∈ (cellsAll l).filter (inCell p) := List.mem_filter.2 ⟨hy, decide_eq_true h2⟩
  generalize (cellsAll l).filter (inCell p) = L at hc m1 m2
  match L, hc, m1, m2 with
  | [], _, m1, _ => cases m1
  | [z], _, m1, m2 => rw [List.mem_singleton.1 m1, List.mem_singleton.1 m2]
  | _ :: _ :: _, hc, _, _ => simp at hc

theorem apart {l : List Page} {a u f : Int} (ha : roomAt l a ≠ 0) (hu : roomAt l u ≠ 0) (hne : u ≠ a) (hf : 0 ≤ f ∧ f < roomAt l u) : ¬ (a ≤ u + f ∧ u + f < a + roomAt l a) := by
  intro h
  have := cells_once (roomAt_pos ha) (roomAt_pos hu) (p := u + f) h ⟨by show u ≤ _; omega, by show _ < u + _; omega⟩
  exact hne (congrArg Prod.fst this).symm

/-! Words that are noughts. -/
theorem word_free {g : Hp} {a u : Int} (h : headE g a = 0) (hu : 16 ≤ u) (p : List Page) (f : Lists) (cd : List Bool) : wordAt ⟨freeW g a, p, f, cd⟩ u = if a ≤ u ∧ u < a + roomAt g.pages a then 0 else wordAt g u := by
  obtain ⟨_, z2, z3, z4⟩ := head_room h
  show at0 (freeW g a) (u - 16).toNat = _
  unfold freeW splice wordAt
  rw [at0_app, at0_app]
  simp only [List.length_append, List.length_take, List.length_replicate]
  by_cases c1 : u < a
  · rw [if_pos (by omega), if_pos (by omega), if_neg (by omega), at0_take _ _ _ (by omega)]
  · by_cases c2 : u < a + roomAt g.pages a
    · rw [if_pos (by omega), if_neg (by omega), if_pos ⟨by omega, c2⟩]
      unfold at0
      rw [List.getD_eq_getElem?_getD, List.getElem?_replicate]
      split <;> rfl
    · rw [if_neg (by omega), if_neg (by omega), at0_drop]
      congr 1
      omega

theorem word_at {g : Hp} {a u f : Int} (h : headE g a = 0) (hu : roomAt g.pages u ≠ 0) (hne : u ≠ a) (hf : 0 ≤ f ∧ f < roomAt g.pages u) (p : List Page) (fr : Lists) (cd : List Bool) : wordAt ⟨freeW g a, p, fr, cd⟩ (u + f) = wordAt g (u + f) := by
  rw [word_free h (by have := (cell_end (roomAt_pos hu)).1; have : 16 ≤ u := this; omega), if_neg (apart (headE_of h).2.1 hu hne hf)]
theorem word_at0 {g : Hp} {a u : Int} (h : headE g a = 0) (hu : roomAt g.pages u ≠ 0) (hne : u ≠ a) (p : List Page) (fr : Lists) (cd : List Bool) : wordAt ⟨freeW g a, p, fr, cd⟩ u = wordAt g u := by
  have := word_at h hu hne (f := 0) ⟨Int.le_refl _, by have := (cell_end (roomAt_pos hu)).2.1; exact this⟩ p fr cd
  rwa [Int.add_zero] at this
theorem word_self {g : Hp} {a : Int} (h : headE g a = 0) (p : List Page) (fr : Lists) (cd : List Bool) : wordAt ⟨freeW g a, p, fr, cd⟩ a = 0 := by
  obtain ⟨_, z2, z3, z4⟩ := head_room h
  rw [word_free h z2, if_pos ⟨Int.le_refl _, by omega⟩]
end Go.Abs
