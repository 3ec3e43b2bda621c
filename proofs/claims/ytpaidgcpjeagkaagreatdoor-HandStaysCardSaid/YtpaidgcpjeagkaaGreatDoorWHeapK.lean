/- A heap of which one head is set; fewer caches: in plain Lean. -/
import Derived.Test.YtpaidgcpjeagkaaGreatDoorWHeap4
set_option linter.all false
set_option linter.unusedVariables false
set_option linter.unusedSimpArgs false
namespace Go.Abs

theorem adr_idx {g : Hp} {a : Int} (hs : g.w.length = 16 * g.pages.length) (ha : adr g a) : (a - 16).toNat < g.w.length := by
  have h1 := ha.1; have h2 := ha.2
  omega

theorem at0_put {l : List Int} {i j : Nat} {v : Int} (hi : i < l.length) : at0 (l.set i v) j = if i = j then v else at0 l j := by
  unfold at0
  rw [List.getD_eq_getElem?_getD, List.getD_eq_getElem?_getD, List.getElem?_set]
  by_cases h : i = j
  · rw [if_pos h, if_pos hi, if_pos h]; rfl
  · rw [if_neg h, if_neg h]

theorem wordAt_put {g : Hp} {a u v : Int} (hs : g.w.length = 16 * g.pages.length) (ha : adr g a) (hu : adr g u) : wordAt (putH g a v) u = if u = a then v else wordAt g u := by
  unfold wordAt
  show at0 (g.w.set (a - 16).toNat v) (u - 16).toNat = _
  rw [at0_put (adr_idx hs ha)]
  have h1 := ha.1; have h2 := hu.1
  by_cases h : u = a
  · subst h; rw [if_pos rfl, if_pos rfl]
  · rw [if_neg h, if_neg (by omega)]

theorem shaped_put (g : Hp) (a v : Int) : shapedH (putH g a v) = shapedH g := by
  unfold shapedH putH mayW
  simp only [List.length_set]

/-- A head is set: what is free is so as it was. -/
theorem free_put {g : Hp} {a v : Int} (hs : g.w.length = 16 * g.pages.length) (ha : adr g a) (h0 : wordAt g a ≠ 0) (hv : v ≠ 0) (c u : Int) : freeB (putH g a v) c u = freeB g c u := by
  unfold freeB
  show decide (0 < roomAt g.pages u ∧ pageAt g u = ⟨1, c⟩ ∧ wordAt (putH g a v) u = 0) = _
  by_cases hr : 0 < roomAt g.pages u
  · have hu := room_adr (h := g) (a := u) (by omega)
    rw [wordAt_put hs ha hu]
    by_cases e : u = a
    · subst e
      simp [hv, h0]
    · rw [if_neg e]
  · simp [hr]

theorem listed_put {g : Hp} {a v : Int} (hs : g.w.length = 16 * g.pages.length) (ha : adr g a) (h0 : wordAt g a ≠ 0) (hv : v ≠ 0) (l : Lists) : listedB (putH g a v) l = listedB g l := by
  unfold listedB
  rw [show freeB (putH g a v) 0 = freeB g 0 from funext (free_put hs ha h0 hv 0), show freeB (putH g a v) 1 = freeB g 1 from funext (free_put hs ha h0 hv 1), show freeB (putH g a v) 2 = freeB g 2 from funext (free_put hs ha h0 hv 2)]

/-- What setting a head leaves. -/
structure PutOk (g : Hp) (a : Int) (x : Hd) : Prop where
  may : mayH g [] = true
  room : roomAt g.pages a ≠ 0
  used : (unp (wordAt g a)).used = true
  xmay : x.May
  xused : x.used = true
  xn : x.n = (unp (wordAt g a)).n

theorem setE_ok {g : Hp} {a : Int} {x : Hd} (h : setE g a x = 0) : PutOk g a x ∧ headE g a = 0 := by
  unfold setE at h
  by_cases h0 : headE g a = 0
  · rw [decide_eq_true h0] at h
    obtain ⟨h1, h2, h3⟩ := headE_of h0
    cases hd : decide (x.May ∧ x.used = true ∧ x.n = (headH g a).n) with
    | false => rw [hd] at h; exact absurd h (by simp)
    | true =>
      obtain ⟨g1, g2, g3⟩ := of_decide_eq_true hd
      rw [headH_yes h0] at g3
      exact ⟨⟨h1, h2, h3, g1, g2, g3⟩, h0⟩
  · rw [decide_eq_false h0] at h
    exact absurd h h0

theorem PutOk.w0 {g : Hp} {a : Int} {x : Hd} (h : PutOk g a x) : wordAt g a ≠ 0 := by
  have hc := (mayH_of h.may).2.2.1 a (mem_starts.2 h.room)
  unfold cellB at hc
  rw [Bool.and_eq_true] at hc
  have := used_ne hc.1
  rw [h.used] at this
  simpa using this.symm

theorem cell_put {g : Hp} {a : Int} {x : Hd} (h : PutOk g a x) {u : Int} (hu : u ∈ cellStarts g.pages) : cellB (putH g a x.word) u = cellB g u := by
  obtain ⟨_, _, hs, _⟩ := shapedH_of (mayH_of h.may).1
  unfold cellB
  rw [wordAt_put hs (room_adr h.room) (start_adr hu)]
  by_cases e : u = a
  · subst e
    rw [if_pos rfl, (unp_word h.xmay).1, (unp_word h.xmay).2, h.xused, h.xn, h.used]
    have hc := (mayH_of h.may).2.2.1 u hu
    unfold cellB at hc
    rw [Bool.and_eq_true] at hc
    rw [hc.1]
    rfl
  · rw [if_neg e]
    rfl

theorem may_put {g : Hp} {a : Int} {x : Hd} (h : PutOk g a x) (cs : List Lists) : mayH (putH g a x.word) cs = mayH g cs := by
  obtain ⟨_, _, hs, _⟩ := shapedH_of (mayH_of h.may).1
  have h0 := h.w0
  have hx := word_ne h.xmay h.xused
  have hl := listed_put hs (room_adr h.room) h0 hx
  unfold mayH
  rw [shaped_put]
  show (shapedH g && ((g.free :: cs).all (listedB (putH g a x.word)) && ((cellStarts g.pages).all (cellB (putH g a x.word)) && _))) = _
  rw [show listedB (putH g a x.word) = listedB g from funext hl]
  have hc : (cellStarts g.pages).all (cellB (putH g a x.word)) = (cellStarts g.pages).all (cellB g) := by
    rw [Bool.eq_iff_iff, List.all_eq_true, List.all_eq_true]
    exact ⟨fun k u hu => by rw [← cell_put h hu]; exact k u hu, fun k u hu => by rw [cell_put h hu]; exact k u hu⟩
  rw [hc]
  rfl

theorem ne0_put {g : Hp} {a : Int} {x : Hd} (h : PutOk g a x) {u : Int} (hu : u ∈ cellStarts g.pages) : (wordAt (putH g a x.word) u != 0) = (wordAt g u != 0) := by
  obtain ⟨_, _, hs, _⟩ := shapedH_of (mayH_of h.may).1
  have h0 := h.w0
  have hx := word_ne h.xmay h.xused
  rw [wordAt_put hs (room_adr h.room) (start_adr hu)]
  by_cases e : u = a
  · subst e
    rw [if_pos rfl, (bne_iff_ne (a := x.word) (b := 0)).2 hx, (bne_iff_ne (a := wordAt g u) (b := 0)).2 h0]
  · rw [if_neg e]

theorem whole_put {g : Hp} {a : Int} {x : Hd} (h : PutOk g a x) (cs : List Lists) : wholeH (putH g a x.word) cs = wholeH g cs := by
  unfold wholeH
  rw [may_put h]
  congr 1
  show (cellStarts g.pages).all _ = (cellStarts g.pages).all _
  rw [Bool.eq_iff_iff, List.all_eq_true, List.all_eq_true]
  constructor
  · intro k u hu
    rw [← ne0_put h hu]
    exact k u hu
  · intro k u hu
    have := k u hu
    rw [← ne0_put h hu] at this
    exact this

theorem used_put {g : Hp} {a : Int} {x : Hd} (h : PutOk g a x) : usedH (putH g a x.word) = usedH g := by
  unfold usedH
  rw [may_put h, h.may]
  show (cellStarts g.pages).filter _ = (cellStarts g.pages).filter _
  exact List.filter_congr fun u hu => ne0_put h hu

theorem head_put {g : Hp} {a : Int} {x : Hd} (h : PutOk g a x) {u : Int} (hu : headE g u = 0) : headE (putH g a x.word) u = 0 ∧ headH (putH g a x.word) u = if u = a then x else headH g u := by
  obtain ⟨_, hr, hus⟩ := headE_of hu
  obtain ⟨_, _, hs, _⟩ := shapedH_of (mayH_of h.may).1
  have hw := wordAt_put (v := x.word) hs (room_adr h.room) (room_adr hr)
  have hE : headE (putH g a x.word) u = 0 := by
    unfold headE
    rw [may_put h, h.may, hw]
    show (bif true then (bif decide (roomAt g.pages u = 0) then 3 else _) else 1) = 0
    rw [decide_eq_false hr]
    by_cases e : u = a
    · rw [if_pos e, (unp_word h.xmay).1, h.xused]; rfl
    · rw [if_neg e, hus]; rfl
  refine ⟨hE, ?_⟩
  rw [headH_yes hE, headH_yes hu, hw]
  by_cases e : u = a
  · rw [if_pos e, if_pos e, (unp_word h.xmay).1]
  · rw [if_neg e, if_neg e]

/-! Fewer caches. -/
theorem flats_append (L M : List Lists) : flats (L ++ M) = flats L ++ flats M := by unfold flats; rw [List.flatMap_append]

theorem may_less {g : Hp} {less : List Lists} {last : Lists} (h : mayH g (less ++ [last]) = true) : mayH g less = true := by
  obtain ⟨h1, h2, h3, h4⟩ := mayH_of h
  refine mayH_mk h1 (fun l hl => h2 l ?_) h3 ?_
  · rw [← List.cons_append]; exact List.mem_append_left _ hl
  · rw [← List.cons_append, flats_append] at h4
    exact (List.nodup_append.1 h4).1

theorem mem_flats {L : List Lists} {x : Int} : x ∈ flats L ↔ ∃ l ∈ L, x ∈ l.flat := by unfold flats; exact List.mem_flatMap

theorem listed_free {g : Hp} {l : Lists} {x : Int} (h : listedB g l = true) (hx : x ∈ l.flat) : 0 < roomAt g.pages x ∧ wordAt g x = 0 := by
  unfold listedB at h
  simp only [Bool.and_eq_true, List.all_eq_true] at h
  unfold Lists.flat at hx
  rw [List.mem_append, List.mem_append] at hx
  rcases hx with (hx | hx) | hx
  · have := of_decide_eq_true (h.1 x hx); exact ⟨this.1, this.2.2⟩
  · have := of_decide_eq_true (h.2.1 x hx); exact ⟨this.1, this.2.2⟩
  · have := of_decide_eq_true (h.2.2 x hx); exact ⟨this.1, this.2.2⟩

theorem whole_less {g : Hp} {less : List Lists} {last : Lists} (h : wholeH g (less ++ [last]) = true) : wholeH g less = decide (last.flat = []) := by
  unfold wholeH at h
  rw [Bool.and_eq_true] at h
  obtain ⟨hm, hw⟩ := h
  have hml := may_less hm
  obtain ⟨h1, h2, h3, h4⟩ := mayH_of hm
  unfold wholeH
  rw [hml, Bool.true_and]
  rw [← List.cons_append, flats_append] at hw h4
  have hfl : flats [last] = last.flat := by unfold flats; simp
  rw [hfl] at hw h4
  by_cases he : last.flat = []
  · rw [he, List.append_nil] at hw
    rw [decide_eq_true he]
    exact hw
  · rw [decide_eq_false he]
    obtain ⟨x, hx⟩ : ∃ x, x ∈ last.flat := by
      cases hl : last.flat with
      | nil => exact absurd hl he
      | cons x r => exact ⟨x, List.mem_cons_self ..⟩
    have hfr := listed_free (h2 last (by rw [← List.cons_append]; exact List.mem_append_right _ (List.mem_singleton.2 rfl))) hx
    have hst := mem_starts.2 (show roomAt g.pages x ≠ 0 by omega)
    have hnot : x ∉ flats (g.free :: less) := fun hin => (List.nodup_append.1 h4).2.2 x hin x hx rfl
    apply Bool.eq_false_iff.2
    intro hall
    have := List.all_eq_true.1 hall x hst
    rw [hfr.2] at this
    simp at this
    exact hnot this
end Go.Abs
