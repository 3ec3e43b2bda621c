/- A cell that is given back, and its page, in plain Lean. -/
import Derived.Test.YtlmeebfippeepaaGreatDoorWFreeM
set_option linter.all false
set_option linter.unusedVariables false
set_option linter.unusedSimpArgs false
namespace Go.Abs
set_option maxRecDepth 8000

/-- What a cell is pushed to. -/
abbrev pushedH (g : Hp) (a : Int) : Hp := pushH { g with w := freeW g a } (pgI a) a

theorem freed_push {g : Hp} {cs : List Lists} (hm : mayH g cs = true) {a : Int} (h : headE g a = 0) (hk : (g.pages.getD (pgI a).toNat default).kind = 1) : Freed g (pushedH g a) a cs := by
  obtain ⟨m1, m2, m3, m4⟩ := mayH_of hm
  obtain ⟨hn0, hd⟩ := head_drops h
  have hr := (headE_of h).2.1
  have hc := ((mayP_ok hd.may).1 _ hd.lt).1 hk
  have hp : pageAt g a = ⟨1, (g.pages.getD (pgI a).toNat default).arg⟩ := by
    show g.pages.getD (pgI a).toNat default = _
    generalize g.pages.getD (pgI a).toNat default = p at hk
    cases p; cases hk; rfl
  have hst : ∀ l ∈ g.free :: cs, ∀ d : Int, 0 ≤ d → d ≤ 2 → ∀ x ∈ l.at_ d, 0 < roomAt g.pages x ∧ pageAt g x = ⟨1, d⟩ ∧ wordAt g x = 0 := fun l hl d h0 h2 x hx => of_decide_eq_true (listedB_iff.1 (m2 l hl) d h0 h2 x hx)
  have hkeep : ∀ l ∈ g.free :: cs, ∀ d : Int, 0 ≤ d → d ≤ 2 → ∀ x ∈ l.at_ d, freeB (pushedH g a) d x = true := by
    intro l hl d h0 h2 x hx
    obtain ⟨r1, r2, r3⟩ := hst l hl d h0 h2 x hx
    have hne : x ≠ a := fun k => head_word hm h (by rw [← k]; exact r3)
    refine decide_eq_true ⟨r1, r2, ?_⟩
    exact (word_at0 h (by omega) hne _ _ _).trans r3
  have hperm : (flats ((pushedH g a).free :: cs)).Perm (a :: flats (g.free :: cs)) := by
    show ((g.free.set_ _ (g.free.at_ _ ++ [a])).flat ++ flats cs).Perm (a :: (g.free.flat ++ flats cs))
    exact (set_perm hc).append_right _
  have hna : a ∉ flats (g.free :: cs) := by
    intro k
    obtain ⟨l, hl, hx⟩ := mem_flats.1 k
    exact head_word hm h (listed_free (m2 l hl) hx).2
  have hmay : mayH (pushedH g a) cs = true := by
    refine mayH_mk ?_ ?_ ?_ (hperm.nodup_iff.2 (List.nodup_cons.2 ⟨hna, m4⟩))
    · obtain ⟨a1, a2, a3, a4, _⟩ := shapedH_of m1
      have e : (freeW g a).length = g.w.length := freeW_len h
      unfold shapedH
      show (mayW (freeW g a) && (mayP g.pages && decide ((freeW g a).length = 16 * g.pages.length ∧ g.cards.length = 2 * g.pages.length))) = true
      unfold mayW at a1 ⊢
      rw [e, a1, a2, decide_eq_true ⟨a3, a4⟩]; rfl
    · intro l hl
      rcases List.mem_cons.1 hl with rfl | hl
      · refine listedB_iff.2 fun d h0 h2 x hx => ?_
        have hx : x ∈ (g.free.set_ (g.pages.getD (pgI a).toNat default).arg (g.free.at_ (g.pages.getD (pgI a).toNat default).arg ++ [a])).at_ d := hx
        rw [at_set hc ⟨h0, h2⟩] at hx
        split at hx
        · rename_i e
          rcases List.mem_append.1 hx with hx | hx
          · exact hkeep g.free (List.mem_cons_self ..) d h0 h2 x (by rw [e]; exact hx)
          · rw [List.mem_singleton.1 hx]
            exact decide_eq_true ⟨by have := roomAt_nonneg g.pages a; show 0 < roomAt g.pages a; omega, by rw [e]; exact hp, word_self h _ _ _⟩
        · exact hkeep g.free (List.mem_cons_self ..) d h0 h2 x hx
      · exact listedB_iff.2 fun d h0 h2 x hx => hkeep l (List.mem_cons_of_mem _ hl) d h0 h2 x hx
    · intro u hu
      have hu : u ∈ cellStarts g.pages := hu
      by_cases e : u = a
      · subst e
        unfold cellB
        rw [show wordAt (pushedH g u) u = 0 from word_self h _ _ _, show pageAt (pushedH g u) u = pageAt g u from rfl, hp, show isHd 0 = true by decide, show (unp 0).used = false by decide]
        rfl
      · have := m3 u hu
        unfold cellB at this ⊢
        rw [show wordAt (pushedH g a) u = wordAt g u from word_at0 h (mem_starts.1 hu) e _ _ _]
        exact this
  refine ⟨hmay, fun hwh => ?_, ?_, rfl, freeW_len h, rfl, fun u hne hu f f0 f1 => word_at h hu hne ⟨f0, f1⟩ _ _ _, fun u hu => rfl, List.Sublist.refl _⟩
  · unfold wholeH
    rw [hmay, Bool.true_and, List.all_eq_true]
    intro u hu
    have hu : u ∈ cellStarts g.pages := hu
    rw [Bool.or_eq_true]
    by_cases e : u = a
    · exact .inr (List.contains_iff_mem.2 (hperm.mem_iff.2 (by rw [e]; exact List.mem_cons_self ..)))
    · rw [show wordAt (pushedH g a) u = wordAt g u from word_at0 h (mem_starts.1 hu) e _ _ _]
      unfold wholeH at hwh
      rw [hm, Bool.true_and, List.all_eq_true] at hwh
      have := hwh u hu
      rw [Bool.or_eq_true] at this
      rcases this with k | k
      · exact .inl k
      · exact .inr (List.contains_iff_mem.2 (hperm.mem_iff.2 (List.mem_cons_of_mem _ (List.contains_iff_mem.1 k))))
  · rw [usedH_eq (may_no hmay)]
    exact used_drop hm h _ _

theorem outs_eq (g : Hp) (i : Int) : outsH g i = (g.free.at_ (g.pages.getD i.toNat default).arg).filter (inP (16 * (i + 1)) (16 * (i + 1) + 16)) := by
  unfold outsH outOf; rw [List.take_length]
theorem stays_eq (g : Hp) (i : Int) : staysH g i = (g.free.at_ (g.pages.getD i.toNat default).arg).filter fun x => !inP (16 * (i + 1)) (16 * (i + 1) + 16) x := by
  unfold staysH stayOf; rw [List.take_length]
theorem inP_page {i x : Int} : inP (16 * (i + 1)) (16 * (i + 1) + 16) x = decide (x / 16 - 1 = i) := by
  unfold inP
  rw [← Bool.decide_and]
  exact decide_eq_decide.2 (by omega)

/-- Where the cells of a small page begin. -/
def onPage (p : Page) (i : Int) : List Int := (List.range (clsN p.arg).toNat).map fun k : Nat => 16 * (i + 1) + (k : Int) * clsW p.arg

theorem mem_onPage {l : List Page} {u : Int} {i : Nat} (hu : u ∈ cellStarts l) (e : u / 16 - 1 = (i : Int)) (hk : (l.getD i default).kind = 1) : u ∈ onPage (l.getD i default) i := by
  obtain ⟨j, hj, ej⟩ := start_cell hu
  have : j = i := by omega
  subst this
  obtain ⟨hmp, _⟩ := cellOf_mem (roomAt_pos (mem_starts.1 hu))
  rcases mem_cellsOn ((mayP_ok hmp).1 j hj.lt) hj.mem with ⟨_, _, k, k1, k2⟩ | ⟨k, _⟩
  · have k2 : u = 16 * ((j : Int) + 1) + (k : Int) * clsW (l.getD j default).arg := k2
    refine List.mem_map.2 ⟨k, List.mem_range.2 (by omega), k2.symm⟩
  · omega

/-- What is free on a page is no more than its cells; if it is all of these, each of them is there. -/
theorem outs_all {g : Hp} {cs : List Lists} (hm : mayH g cs = true) {i : Int} (h0 : 0 ≤ i) (hd : Drops g.pages i.toNat) (hk : (g.pages.getD i.toNat default).kind = 1) :
    ((outsH g i).length : Int) ≤ clsN (g.pages.getD i.toNat default).arg ∧ (((outsH g i).length : Int) = clsN (g.pages.getD i.toNat default).arg → ∀ u ∈ cellStarts g.pages, u / 16 - 1 = i → u ∈ outsH g i) := by
  obtain ⟨m1, m2, m3, m4⟩ := mayH_of hm
  have hc := ((mayP_ok hd.may).1 _ hd.lt).1 hk
  have ei : ((i.toNat : Nat) : Int) = i := by omega
  have hN := clsWN hc
  have hlen : ((onPage (g.pages.getD i.toNat default) i).length : Int) = clsN (g.pages.getD i.toNat default).arg := by
    unfold onPage; rw [List.length_map, List.length_range]; rcases hN with k | k | k <;> omega
  have hnd : (outsH g i).Nodup := by
    rw [outs_eq]
    apply List.Nodup.sublist List.filter_sublist
    have e : flats (g.free :: cs) = g.free.flat ++ flats cs := rfl
    rw [e] at m4
    have := (List.nodup_append.1 m4).1
    have hc' : (g.pages.getD i.toNat default).arg = 0 ∨ (g.pages.getD i.toNat default).arg = 1 ∨ (g.pages.getD i.toNat default).arg = 2 := by omega
    unfold Lists.flat at this
    rcases hc' with e | e | e <;> rw [e]
    · exact (List.nodup_append.1 (List.nodup_append.1 this).1).1
    · exact (List.nodup_append.1 (List.nodup_append.1 this).1).2.1
    · exact (List.nodup_append.1 this).2.1
  have hsub : ∀ x ∈ outsH g i, x ∈ onPage (g.pages.getD i.toNat default) i := by
    intro x hx
    rw [outs_eq, List.mem_filter, inP_page, decide_eq_true_eq] at hx
    obtain ⟨r1, _⟩ := (of_decide_eq_true (listedB_iff.1 (m2 g.free (List.mem_cons_self ..)) _ hc.1 hc.2 x hx.1) : 0 < roomAt g.pages x ∧ _)
    have := mem_onPage (i := i.toNat) (mem_starts.2 (show roomAt g.pages x ≠ 0 by omega)) (by omega) hk
    rw [ei] at this; exact this
  have hle := nodup_le hnd hsub
  refine ⟨by omega, fun he u hu e => ?_⟩
  refine pigeon hnd hsub (by omega) u ?_
  have := mem_onPage (i := i.toNat) hu (by omega) hk
  rw [ei] at this; exact this

theorem back_keeps {g : Hp} {cs : List Lists} (hm : mayH g cs = true) {i : Int} (h0 : 0 ≤ i) (hd : Drops g.pages i.toNat) (hk : (g.pages.getD i.toNat default).kind = 1) :
    mayH (backH g i) cs = true ∧ (wholeH g cs = true → wholeH (backH g i) cs = true) ∧ usedH (backH g i) = usedH g ∧ (backH g i).cards = g.cards ∧ (backH g i).w = g.w ∧ (backH g i).pages.length = g.pages.length ∧ (∀ u, roomAt (backH g i).pages u ≠ 0 → roomAt (backH g i).pages u = roomAt g.pages u) ∧ (cellStarts (backH g i).pages).Sublist (cellStarts g.pages) := by
  unfold backH
  split
  case isFalse => exact ⟨hm, id, rfl, rfl, rfl, rfl, fun _ _ => rfl, List.Sublist.refl _⟩
  rename_i hn
  obtain ⟨m1, m2, m3, m4⟩ := mayH_of hm
  have hc := ((mayP_ok hd.may).1 _ hd.lt).1 hk
  have ei : ((i.toNat : Nat) : Int) = i := by omega
  have hall := (outs_all hm h0 hd hk).2 hn
  have hst : ∀ l ∈ g.free :: cs, ∀ d : Int, 0 ≤ d → d ≤ 2 → ∀ x ∈ l.at_ d, 0 < roomAt g.pages x ∧ pageAt g x = ⟨1, d⟩ ∧ wordAt g x = 0 := fun l hl d h0 h2 x hx => of_decide_eq_true (listedB_iff.1 (m2 l hl) d h0 h2 x hx)
  have harg : ∀ l ∈ g.free :: cs, ∀ d : Int, 0 ≤ d → d ≤ 2 → ∀ x ∈ l.at_ d, x / 16 - 1 = i → d = (g.pages.getD i.toNat default).arg := by
    intro l hl d d0 d2 x hx e
    obtain ⟨_, r2, _⟩ := hst l hl d d0 d2 x hx
    unfold pageAt at r2
    rw [e] at r2
    rw [r2]
  have hof : ∀ u ∈ cellStarts g.pages, u / 16 - 1 = i → u ∈ g.free.at_ (g.pages.getD i.toNat default).arg ∧ u ∈ g.free.flat := by
    intro u hu e
    have := hall u hu e
    rw [outs_eq, List.mem_filter] at this
    exact ⟨this.1, mem_flat.2 ⟨_, hc.1, hc.2, this.1⟩⟩
  have hsub : (flats (g.free.set_ (g.pages.getD i.toNat default).arg (staysH g i) :: cs)).Sublist (flats (g.free :: cs)) := by
    show ((g.free.set_ _ (staysH g i)).flat ++ flats cs).Sublist (g.free.flat ++ flats cs)
    exact (set_sub hc (by rw [stays_eq]; exact List.filter_sublist)).append (List.Sublist.refl _)
  have key := drop_keeps (h := g) (i := i.toNat) (F := g.free.set_ (g.pages.getD i.toNat default).arg (staysH g i)) (cs := cs) m1 hd ?_ ?_ (fun u hu _ => m3 u hu) (m4.sublist hsub)
  · obtain ⟨k1, k2, k3⟩ := key
    refine ⟨k1, fun hwh => k2 fun u hu e => ?_, k3.trans (usedH_eq (may_no hm)).symm, rfl, rfl, hd.len, fun u hu => ?_, ?_⟩
    · unfold wholeH at hwh
      rw [hm, Bool.true_and, List.all_eq_true] at hwh
      have := hwh u hu
      rw [Bool.or_eq_true] at this
      rcases this with k | k
      · exact .inl (by simpa using k)
      · refine .inr ?_
        have k := List.contains_iff_mem.1 k
        have k : u ∈ g.free.flat ++ flats cs := k
        show u ∈ (g.free.set_ _ (staysH g i)).flat ++ flats cs
        rcases List.mem_append.1 k with k | k
        · refine List.mem_append.2 (.inl ?_)
          obtain ⟨d, d0, d2, hx⟩ := mem_flat.1 k
          refine mem_flat.2 ⟨d, d0, d2, ?_⟩
          rw [at_set hc ⟨d0, d2⟩]
          split
          · rename_i ed
            rw [stays_eq, List.mem_filter]
            exact ⟨by rw [← ed]; exact hx, by rw [inP_page, decide_eq_false (by omega)]; rfl⟩
          · exact hx
        · exact List.mem_append.2 (.inr k)
    · have := hd.room u
      show roomAt (dropP g.pages i.toNat) u = _
      rw [this]
      split
      · rename_i e
        exact absurd (show roomAt (dropP g.pages i.toNat) u = 0 by rw [this, if_pos e]) hu
      · rfl
    · show (cellStarts (dropP g.pages i.toNat)).Sublist _
      rw [hd.starts]; exact List.filter_sublist
  · intro u hu e
    obtain ⟨l, k⟩ := hof u hu (by omega)
    exact (hst g.free (List.mem_cons_self ..) _ hc.1 hc.2 u l).2.2
  · intro l hl d d0 d2 x hx
    rcases List.mem_cons.1 hl with rfl | hl
    · rw [at_set hc ⟨d0, d2⟩] at hx
      split at hx
      · rename_i ed
        rw [stays_eq, List.mem_filter, inP_page] at hx
        obtain ⟨x1, x2⟩ := hx
        refine ⟨listedB_iff.1 (m2 g.free (List.mem_cons_self ..)) d d0 d2 x (by rw [ed]; exact x1), fun e => ?_⟩
        rw [decide_eq_true (by omega)] at x2
        cases x2
      · rename_i ed
        exact ⟨listedB_iff.1 (m2 g.free (List.mem_cons_self ..)) d d0 d2 x hx, fun e => ed (harg g.free (List.mem_cons_self ..) d d0 d2 x hx (by omega))⟩
    · refine ⟨listedB_iff.1 (m2 l (List.mem_cons_of_mem _ hl)) d d0 d2 x hx, fun e => ?_⟩
      have hxs := mem_starts.2 (show roomAt g.pages x ≠ 0 by have := (hst l (List.mem_cons_of_mem _ hl) d d0 d2 x hx).1; omega)
      obtain ⟨_, k⟩ := hof x hxs (by omega)
      have e : flats (g.free :: cs) = g.free.flat ++ flats cs := rfl
      rw [e] at m4
      exact (List.nodup_append.1 m4).2.2 x k x (mem_flats.2 ⟨l, hl, mem_flat.2 ⟨d, d0, d2, hx⟩⟩) rfl

theorem freed {g : Hp} {cs : List Lists} (hm : mayH g cs = true) {a : Int} (h : headE g a = 0) : Freed g (freeH g a) a cs := by
  unfold freeH
  rw [if_pos h]
  split
  · rename_i hk
    exact freed_large hm h hk
  · rename_i hk
    obtain ⟨hn0, hd⟩ := head_drops h
    have hk1 := hd.kind.resolve_right hk
    have f := freed_push hm h hk1
    obtain ⟨b1, b2, b3, b4, b5, b6, b7, b8⟩ := back_keeps (g := pushedH g a) f.may hn0 hd hk1
    exact ⟨b1, fun k => b2 (f.whole k), b3.trans f.used, b4.trans f.cards, (congrArg List.length b5).trans f.wlen, b6.trans f.plen, fun u hne hu x x0 x1 => (show wordAt _ _ = wordAt (pushedH g a) (u + x) by unfold wordAt; rw [b5]).trans (f.word u hne hu x x0 x1), fun u hu => b7 u hu, b8⟩
end Go.Abs
