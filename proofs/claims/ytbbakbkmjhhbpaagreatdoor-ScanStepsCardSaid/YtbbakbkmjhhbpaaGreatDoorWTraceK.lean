/- A step of going through what is grey, in plain Lean. -/
import Derived.Test.YtbbakbkmjhhbpaaGreatDoorWShadeK
import Derived.Test.YtbbakbkmjhhbpaaGreatDoorWBegins
import Derived.Test.YtbbakbkmjhhbpaaGreatDoorWTile
set_option linter.all false
set_option linter.unusedVariables false
set_option linter.unusedSimpArgs false
namespace Go.Abs

/-- Only marks differ. -/
structure Marks (g k : Hp) : Prop where
  pages : k.pages = g.pages
  free : k.free = g.free
  cards : k.cards = g.cards
  len : k.w.length = g.w.length
  may : ∀ cs, mayH k cs = mayH g cs
  whole : ∀ cs, wholeH k cs = wholeH g cs
  used : usedH k = usedH g
  headE : ∀ u, Abs.headE k u = Abs.headE g u
  head : ∀ u, (headH k u).used = (headH g u).used ∧ (headH k u).old = (headH g u).old ∧ (headH k u).n = (headH g u).n ∧ (headH k u).born = (headH g u).born
  word : ∀ i : Nat, k.w.getD i default ≠ g.w.getD i default → 16 + (i : Int) ∈ usedH g

theorem Marks.refl (g : Hp) : Marks g g := ⟨rfl, rfl, rfl, rfl, fun _ => rfl, fun _ => rfl, rfl, fun _ => rfl, fun _ => ⟨rfl, rfl, rfl, rfl⟩, fun _ h => absurd rfl h⟩

theorem Marks.trans {g k m : Hp} (h : Marks g k) (h' : Marks k m) : Marks g m := by
  refine ⟨h'.pages.trans h.pages, h'.free.trans h.free, h'.cards.trans h.cards, h'.len.trans h.len, fun cs => (h'.may cs).trans (h.may cs), fun cs => (h'.whole cs).trans (h.whole cs), h'.used.trans h.used, fun u => (h'.headE u).trans (h.headE u), fun u => ?_, fun i hi => ?_⟩
  · obtain ⟨a1, a2, a3, a4⟩ := h.head u
    obtain ⟨b1, b2, b3, b4⟩ := h'.head u
    exact ⟨b1.trans a1, b2.trans a2, b3.trans a3, b4.trans a4⟩
  · by_cases e : k.w.getD i default = g.w.getD i default
    · have := h'.word i (by rw [e]; exact hi)
      rw [h.used] at this
      exact this
    · exact h.word i e

theorem Marks.few {g k : Hp} (h : Marks g k) : fewH k = fewH g := few_same h.len h.pages h.free (by rw [h.cards])

theorem shade_marks (g : Hp) (c : Col) (a : Int) : Marks g (shadeG g c a) := by
  obtain ⟨e1, e2, e3, e4⟩ := shadeG_rest g c a
  refine ⟨e1, e2, e3, e4, shadeG_may g c a, shadeG_whole g c a, shadeG_used g c a, fun u => (shadeG_head g c a u).1, fun u => ?_, fun i hi => ?_⟩
  · rw [(shadeG_head g c a u).2]
    by_cases e : u = a ∧ atK g c a = 1
    · rw [if_pos e, e.1]; exact ⟨rfl, rfl, rfl, rfl⟩
    · rw [if_neg e]; exact ⟨rfl, rfl, rfl, rfl⟩
  · obtain ⟨h1, h2⟩ := shadeG_word g c a i hi
    rw [show 16 + (i : Int) = a by omega]
    exact mem_usedH.2 (mark_may h2).1

theorem black_marks (g : Hp) (c : Col) (a : Int) : Marks g (blackG g c a) := by
  obtain ⟨e1, e2, e3, e4⟩ := blackG_rest g c a
  refine ⟨e1, e2, e3, e4, blackG_may g c a, blackG_whole g c a, blackG_used g c a, fun u => (blackG_head g c a u).1, fun u => ?_, fun i hi => ?_⟩
  · rw [(blackG_head g c a u).2]
    by_cases e : u = a ∧ atK g c a = 2
    · rw [if_pos e, e.1]; exact ⟨rfl, rfl, rfl, rfl⟩
    · rw [if_neg e]; exact ⟨rfl, rfl, rfl, rfl⟩
  · obtain ⟨h1, h2⟩ := blackG_word g c a i hi
    rw [show 16 + (i : Int) = a by omega]
    exact mem_usedH.2 (done_may h2).1

/-- So many fields has a grey object. -/
def greyN (g : Hp) (c : Col) (a : Int) : Int := if atK g c a = 2 then (headH g a).n else 0
/-- What an address's word is; nought, if it is nobody's. -/
def wordOf (g : Hp) (a : Int) : Int := if mayW g.w = true ∧ 16 ≤ a ∧ a < 16 + (g.w.length : Int) then wordAt g a else 0
/-- The first cell behind an address. -/
def nextS (l : List Page) (a : Int) : Int := ((cellStarts l).find? fun s => decide (a < s)).getD 0

def fieldS (g : Hp) (c : Col) : Hp × Col :=
  if c.field_ < 0 ∨ greyN g c c.at_ ≤ c.field_ then (g, { c with at_ := 0, field_ := 0 })
  else if c.field_ + 1 = greyN g c c.at_ then (blackG (shadeG g c (wordOf g (c.at_ + 1 + c.field_))) c c.at_, { shadeC g c (wordOf g (c.at_ + 1 + c.field_)) with at_ := 0, field_ := 0 })
  else (shadeG g c (wordOf g (c.at_ + 1 + c.field_)), { shadeC g c (wordOf g (c.at_ + 1 + c.field_)) with field_ := c.field_ + 1 })

def traceS (g : Hp) (c : Col) : Hp × Col :=
  if mayH g [] = true ∧ c.phase = 5 then
    (if c.at_ ≠ 0 then fieldS g c
     else if 0 < c.work.length then (g, { c with at_ := at0 c.work (c.work.length - 1), field_ := 0, work := c.work.take (c.work.length - 1) })
     else if c.seek ≠ 0 then (if greyN g c (nextS g.pages c.seek) = 0 then (g, { c with seek := nextS g.pages c.seek }) else (g, { c with seek := nextS g.pages c.seek, at_ := nextS g.pages c.seek, field_ := 0 }))
     else if c.over = true then (g, { c with over := false, seek := 1 })
     else (g, { c with phase := 6, at_ := 0, field_ := 0, seek := 0, card := 0, met := false }))
  else (g, c)

/-- What is known of a colour: it does not fall; what is out stays so. -/
structure Rises (c : Col) (g k : Hp) : Prop where
  le : ∀ u, atK g c u ≤ atK k c u
  out : ∀ u, atK g c u = 0 → atK k c u = 0

theorem Rises.refl (c : Col) (g : Hp) : Rises c g g := ⟨fun _ => Int.le_refl _, fun _ h => h⟩
theorem Rises.trans {c : Col} {g k m : Hp} (h : Rises c g k) (h' : Rises c k m) : Rises c g m := ⟨fun u => Int.le_trans (h.le u) (h'.le u), fun u e => h'.out u (h.out u e)⟩
theorem shade_rises (g : Hp) (c : Col) (a : Int) : Rises c g (shadeG g c a) := by
  constructor
  · intro u
    rw [atK_shade]
    by_cases e : u = a ∧ atK g c a = 1
    · rw [if_pos e, e.1, e.2]; decide
    · rw [if_neg e]; exact Int.le_refl _
  · intro u h0
    rw [atK_shade, if_neg]
    · exact h0
    · rintro ⟨e, h⟩
      subst e
      omega
theorem black_rises (g : Hp) (c : Col) (a : Int) : Rises c g (blackG g c a) := by
  constructor
  · intro u
    rw [atK_black]
    by_cases e : u = a ∧ atK g c a = 2
    · rw [if_pos e, e.1, e.2]; decide
    · rw [if_neg e]; exact Int.le_refl _
  · intro u h0
    rw [atK_black, if_neg]
    · exact h0
    · rintro ⟨e, h⟩
      subst e
      omega

/-- A step, case by case. -/
inductive TStep (g : Hp) (c : Col) : Hp → Col → Prop
  | idle (h : ¬ (mayH g [] = true ∧ c.phase = 5)) : TStep g c g c
  | lost (hm : mayH g [] = true) (hp : c.phase = 5) (ha : c.at_ ≠ 0) (h : c.field_ < 0 ∨ greyN g c c.at_ ≤ c.field_) : TStep g c g { c with at_ := 0, field_ := 0 }
  | last (hm : mayH g [] = true) (hp : c.phase = 5) (ha : c.at_ ≠ 0) (h0 : 0 ≤ c.field_) (h : c.field_ + 1 = greyN g c c.at_) (v : Int) (hv : v = wordOf g (c.at_ + 1 + c.field_)) :
      TStep g c (blackG (shadeG g c v) c c.at_) { shadeC g c v with at_ := 0, field_ := 0 }
  | more (hm : mayH g [] = true) (hp : c.phase = 5) (ha : c.at_ ≠ 0) (h0 : 0 ≤ c.field_) (h : c.field_ + 1 < greyN g c c.at_) (v : Int) (hv : v = wordOf g (c.at_ + 1 + c.field_)) :
      TStep g c (shadeG g c v) { shadeC g c v with field_ := c.field_ + 1 }
  | pop (hm : mayH g [] = true) (hp : c.phase = 5) (ha : c.at_ = 0) (r : List Int) (x : Int) (hw : c.work = r ++ [x]) : TStep g c g { c with at_ := x, field_ := 0, work := r }
  | pass (hm : mayH g [] = true) (hp : c.phase = 5) (ha : c.at_ = 0) (hw : c.work = []) (hs : c.seek ≠ 0) (hg : greyN g c (nextS g.pages c.seek) = 0) : TStep g c g { c with seek := nextS g.pages c.seek }
  | find (hm : mayH g [] = true) (hp : c.phase = 5) (ha : c.at_ = 0) (hw : c.work = []) (hs : c.seek ≠ 0) (hg : greyN g c (nextS g.pages c.seek) ≠ 0) : TStep g c g { c with seek := nextS g.pages c.seek, at_ := nextS g.pages c.seek, field_ := 0 }
  | again (hm : mayH g [] = true) (hp : c.phase = 5) (ha : c.at_ = 0) (hw : c.work = []) (hs : c.seek = 0) (ho : c.over = true) : TStep g c g { c with over := false, seek := 1 }
  | fin (hm : mayH g [] = true) (hp : c.phase = 5) (ha : c.at_ = 0) (hw : c.work = []) (hs : c.seek = 0) (ho : c.over = false) : TStep g c g { c with phase := 6, at_ := 0, field_ := 0, seek := 0, card := 0, met := false }

theorem take_last {l : List Int} (h : 0 < l.length) : l = l.take (l.length - 1) ++ [at0 l (l.length - 1)] := by
  have h1 : l.length - 1 < l.length := by omega
  have := take_at0 h1
  rw [show l.length - 1 + 1 = l.length by omega, List.take_length] at this
  exact this

theorem trace_step (g : Hp) (c : Col) : TStep g c (traceS g c).1 (traceS g c).2 := by
  unfold traceS
  by_cases hm : mayH g [] = true ∧ c.phase = 5
  · rw [if_pos hm]
    by_cases ha : c.at_ ≠ 0
    · rw [if_pos ha]
      unfold fieldS
      by_cases hf : c.field_ < 0 ∨ greyN g c c.at_ ≤ c.field_
      · rw [if_pos hf]
        exact .lost hm.1 hm.2 ha hf
      · rw [if_neg hf]
        by_cases hl : c.field_ + 1 = greyN g c c.at_
        · rw [if_pos hl]
          exact .last hm.1 hm.2 ha (by omega) hl _ rfl
        · rw [if_neg hl]
          exact .more hm.1 hm.2 ha (by omega) (by omega) _ rfl
    · rw [if_neg ha]
      have ha : c.at_ = 0 := by simpa using ha
      by_cases hw : 0 < c.work.length
      · rw [if_pos hw]
        exact .pop hm.1 hm.2 ha _ _ (take_last hw)
      · rw [if_neg hw]
        have hw : c.work = [] := List.eq_nil_of_length_eq_zero (by omega)
        by_cases hs : c.seek ≠ 0
        · rw [if_pos hs]
          by_cases hg : greyN g c (nextS g.pages c.seek) = 0
          · rw [if_pos hg]
            exact .pass hm.1 hm.2 ha hw hs hg
          · rw [if_neg hg]
            exact .find hm.1 hm.2 ha hw hs hg
        · rw [if_neg hs]
          have hs : c.seek = 0 := by simpa using hs
          by_cases ho : c.over = true
          · rw [if_pos ho]
            exact .again hm.1 hm.2 ha hw hs ho
          · rw [if_neg ho]
            exact .fin hm.1 hm.2 ha hw hs (by simpa using ho)
  · rw [if_neg hm]
    exact .idle hm

theorem TStep.marks {g k : Hp} {c d : Col} (h : TStep g c k d) : Marks g k := by
  cases h
  case last v hv => exact (shade_marks g c v).trans (black_marks _ c c.at_)
  case more v hv => exact shade_marks g c v
  all_goals exact .refl g

theorem TStep.rises {g k : Hp} {c d : Col} (h : TStep g c k d) : Rises c g k := by
  cases h
  case last v hv => exact (shade_rises g c v).trans (black_rises _ c c.at_)
  case more v hv => exact shade_rises g c v
  all_goals exact .refl c g

theorem TStep.col {g k : Hp} {c d : Col} (h : TStep g c k d) : d.epoch = c.epoch ∧ d.major = c.major ∧ (d.phase = c.phase ∨ c.phase = 5 ∧ d.phase = 6) := by
  cases h
  case last v hv => exact ⟨(shadeC_same g c v).epoch, (shadeC_same g c v).major, .inl (shadeC_same g c v).phase⟩
  case more v hv => exact ⟨(shadeC_same g c v).epoch, (shadeC_same g c v).major, .inl (shadeC_same g c v).phase⟩
  case fin => exact ⟨rfl, rfl, .inr ⟨by assumption, rfl⟩⟩
  all_goals exact ⟨rfl, rfl, .inl rfl⟩

theorem TStep.at {g k : Hp} {c d : Col} (h : TStep g c k d) (m : Hp) (u : Int) : atK m d u = atK m c u := atK_col h.col.1 h.col.2.1 m u

theorem TStep.work {g k : Hp} {c d : Col} (h : TStep g c k d) : d.work.length ≤ c.work.length + 1 := by
  have hsh : ∀ v, (shadeC g c v).work.length ≤ c.work.length + 1 := fun v => by
    by_cases e : atK g c v = 1
    · rw [shadeC_yes e]
      split
      · show (c.work ++ [v]).length ≤ _
        rw [List.length_append]
        exact Nat.le_refl _
      · exact Nat.le_succ _
    · rw [shadeC_no e]
      exact Nat.le_succ _
  cases h
  case last v hv => exact hsh v
  case more v hv => exact hsh v
  case pop r x hw =>
    show r.length ≤ _
    rw [hw, List.length_append]
    omega
  all_goals exact Nat.le_succ _

theorem shadeC_work4 (g : Hp) (c : Col) (v : Int) (h : c.work.length ≤ 100) : (shadeC g c v).work.length ≤ 100 := by
  by_cases e : atK g c v = 1
  · rw [shadeC_yes e]
    split
    · show (c.work ++ [v]).length ≤ _
      rw [List.length_append, List.length_singleton]
      omega
    · exact h
  · rw [shadeC_no e]; exact h

theorem TStep.work100 {g k : Hp} {c d : Col} (h : TStep g c k d) (h1 : c.work.length ≤ 100) : d.work.length ≤ 100 := by
  cases h
  case last v hv => exact shadeC_work4 g c v h1
  case more v hv => exact shadeC_work4 g c v h1
  case pop r x hw =>
    rw [hw, List.length_append] at h1
    show r.length ≤ _
    omega
  all_goals exact h1

/-! Known. -/
def knownB (g : Hp) (c : Col) : Bool := (greyH g c).all fun u => c.over || (u == c.at_ || ((c.seek != 0 && decide (u > c.seek)) || c.work.contains u))

theorem known_iff {g : Hp} {c : Col} : knownB g c = true ↔ ∀ u, atK g c u = 2 → c.over = true ∨ u = c.at_ ∨ (c.seek ≠ 0 ∧ c.seek < u) ∨ u ∈ c.work := by
  unfold knownB
  rw [List.all_eq_true]
  constructor
  · intro h u hu
    have := h u (mem_grey.2 hu)
    simp only [Bool.or_eq_true, Bool.and_eq_true, beq_iff_eq, bne_iff_ne, decide_eq_true_eq, List.contains_iff_mem] at this
    exact this
  · intro h u hu
    simp only [Bool.or_eq_true, Bool.and_eq_true, beq_iff_eq, bne_iff_ne, decide_eq_true_eq, List.contains_iff_mem]
    exact h u (mem_grey.1 hu)

theorem grey_adr {g : Hp} {c : Col} {u : Int} (h : atK g c u = 2) : headE g u = 0 ∧ u ∈ cellStarts g.pages ∧ 16 ≤ u := by
  have h0 : headE g u = 0 := atK_ne (c := c) (by omega)
  obtain ⟨_, hr, _⟩ := headE_of h0
  exact ⟨h0, mem_starts.2 hr, (room_adr (h := g) hr).1⟩

theorem nextS_cases (l : List Page) (a : Int) : (nextS l a = 0 ∧ ∀ u ∈ cellStarts l, u ≤ a) ∨ (a < nextS l a ∧ nextS l a ∈ cellStarts l ∧ ∀ u ∈ cellStarts l, a < u → nextS l a ≤ u) := by
  unfold nextS
  have hs := starts_sorted l
  generalize cellStarts l = L at *
  induction L with
  | nil => exact .inl ⟨rfl, fun u h => by cases h⟩
  | cons x r ih =>
    rw [List.pairwise_cons] at hs
    rw [List.find?_cons]
    by_cases hx : a < x
    · rw [decide_eq_true hx]
      refine .inr ⟨hx, List.mem_cons_self .., fun u hu _ => ?_⟩
      rcases List.mem_cons.1 hu with e | hu
      · rw [e]; exact Int.le_refl _
      · exact Int.le_of_lt (hs.1 u hu)
    · rw [decide_eq_false hx]
      rcases ih hs.2 with ⟨h1, h2⟩ | ⟨h1, h2, h3⟩
      · refine .inl ⟨h1, fun u hu => ?_⟩
        rcases List.mem_cons.1 hu with e | hu
        · omega
        · exact h2 u hu
      · refine .inr ⟨h1, List.mem_cons_of_mem _ h2, fun u hu ha => ?_⟩
        rcases List.mem_cons.1 hu with e | hu
        · omega
        · exact h3 u hu ha

theorem greyN_pos {g : Hp} {c : Col} {a : Int} : greyN g c a ≠ 0 ↔ atK g c a = 2 := by
  unfold greyN
  constructor
  · intro h
    by_cases e : atK g c a = 2
    · exact e
    · rw [if_neg e] at h; exact absurd rfl h
  · intro h
    rw [if_pos h]
    have := (head_fits (grey_adr h).1).2.1
    omega

/-- What was known of all that was grey. -/
theorem known_shade {g : Hp} {c : Col} {v : Int} (h : ∀ u, atK g c u = 2 → c.over = true ∨ u = c.at_ ∨ (c.seek ≠ 0 ∧ c.seek < u) ∨ u ∈ c.work) :
    ∀ u, atK (shadeG g c v) c u = 2 → (shadeC g c v).over = true ∨ u = c.at_ ∨ (c.seek ≠ 0 ∧ c.seek < u) ∨ u ∈ (shadeC g c v).work := by
  intro u hu
  rw [atK_shade] at hu
  by_cases hv : atK g c v = 1
  · rw [shadeC_yes hv]
    by_cases h4 : c.work.length < 4
    · rw [if_pos h4]
      show c.over = true ∨ _ ∨ _ ∨ u ∈ c.work ++ [v]
      rw [List.mem_append, List.mem_singleton]
      by_cases e : u = v
      · exact .inr (.inr (.inr (.inr e)))
      · rw [if_neg (fun k => e k.1)] at hu
        rcases h u hu with k | k | k | k
        · exact .inl k
        · exact .inr (.inl k)
        · exact .inr (.inr (.inl k))
        · exact .inr (.inr (.inr (.inl k)))
    · rw [if_neg h4]
      exact .inl rfl
  · rw [if_neg (fun k => hv k.2)] at hu
    rw [shadeC_no hv]
    exact h u hu

theorem TStep.known {g k : Hp} {c d : Col} (h : TStep g c k d) (hk : knownB g c = true) (hf : atK g c c.at_ = 2 → 0 ≤ c.field_ ∧ c.field_ < (headH g c.at_).n) : knownB k d = true := by
  have hat := h.at
  rw [known_iff] at hk ⊢
  cases h
  case idle h => exact hk
  case lost hm hp ha h =>
    intro u hu
    rcases hk u hu with k | k | k | k
    · exact .inl k
    · exfalso
      subst k
      have h1 : atK g c c.at_ = 2 := hu
      have h2 := hf h1
      have h3 : greyN g c c.at_ = (headH g c.at_).n := if_pos h1
      omega
    · exact .inr (.inr (.inl k))
    · exact .inr (.inr (.inr k))
  case last hm hp ha h0 h v hv =>
    intro u hu
    rw [hat, atK_black] at hu
    by_cases e : u = c.at_ ∧ atK (shadeG g c v) c c.at_ = 2
    · rw [if_pos e] at hu; exact absurd hu (by decide)
    · rw [if_neg e] at hu
      rcases known_shade hk u hu with k | k | k | k
      · exact .inl k
      · exact absurd ⟨k, k ▸ hu⟩ e
      · exact .inr (.inr (.inl ⟨by rw [(shadeC_same g c v).seek]; exact k.1, by show (shadeC g c v).seek < u; rw [(shadeC_same g c v).seek]; exact k.2⟩))
      · exact .inr (.inr (.inr k))
  case more hm hp ha h0 h v hv =>
    intro u hu
    rw [hat] at hu
    rcases known_shade hk u hu with k | k | k | k
    · exact .inl k
    · exact .inr (.inl (by show u = (shadeC g c v).at_; rw [(shadeC_same g c v).at_]; exact k))
    · exact .inr (.inr (.inl ⟨by rw [(shadeC_same g c v).seek]; exact k.1, by show (shadeC g c v).seek < u; rw [(shadeC_same g c v).seek]; exact k.2⟩))
    · exact .inr (.inr (.inr k))
  case pop hm hp ha r x hw =>
    intro u hu
    rcases hk u hu with k | k | k | k
    · exact .inl k
    · have := (grey_adr (c := c) hu).2.2
      omega
    · exact .inr (.inr (.inl k))
    · rw [hw, List.mem_append, List.mem_singleton] at k
      rcases k with k | k
      · exact .inr (.inr (.inr k))
      · exact .inr (.inl k)
  case pass hm hp ha hw hs hg =>
    intro u hu
    have hgr := grey_adr (c := c) hu
    rcases hk u hu with k | k | k | k
    · exact .inl k
    · omega
    · rcases nextS_cases g.pages c.seek with ⟨h1, h2⟩ | ⟨h1, h2, h3⟩
      · have := h2 u hgr.2.1
        omega
      · have h4 := h3 u hgr.2.1 k.2
        have h5 : u ≠ nextS g.pages c.seek := by
          intro e
          have := greyN_pos.2 (show atK g c u = 2 from hu)
          rw [e] at this
          exact this hg
        have h6 := (room_adr (h := g) (mem_starts.1 h2)).1
        refine .inr (.inr (.inl ⟨?_, ?_⟩))
        · show nextS g.pages c.seek ≠ 0; omega
        · show nextS g.pages c.seek < u; omega
    · rw [hw] at k; cases k
  case find hm hp ha hw hs hg =>
    intro u hu
    have hgr := grey_adr (c := c) hu
    rcases hk u hu with k | k | k | k
    · exact .inl k
    · omega
    · rcases nextS_cases g.pages c.seek with ⟨h1, h2⟩ | ⟨h1, h2, h3⟩
      · have := h2 u hgr.2.1
        omega
      · have h4 := h3 u hgr.2.1 k.2
        have h6 := (room_adr (h := g) (mem_starts.1 h2)).1
        by_cases e : u = nextS g.pages c.seek
        · exact .inr (.inl e)
        · refine .inr (.inr (.inl ⟨?_, ?_⟩))
          · show nextS g.pages c.seek ≠ 0; omega
          · show nextS g.pages c.seek < u; omega
    · rw [hw] at k; cases k
  case again hm hp ha hw hs ho =>
    intro u hu
    have hgr := grey_adr (c := c) hu
    exact .inr (.inr (.inl ⟨by show (1 : Int) ≠ 0; decide, by show (1 : Int) < u; omega⟩))
  case fin hm hp ha hw hs ho =>
    intro u hu
    have hu : atK g c u = 2 := by rw [← hat]; exact hu
    have hgr := grey_adr hu
    rcases hk u hu with k | k | k | k
    · rw [ho] at k; cases k
    · omega
    · exact absurd hs k.1
    · rw [hw] at k; cases k

/-- Nothing is grey when there is nothing more to go through. -/
theorem known_none {g : Hp} {c : Col} (hk : knownB g c = true) (ha : c.at_ = 0) (hw : c.work = []) (hs : c.seek = 0) (ho : c.over = false) : greyH g c = [] := by
  rw [known_iff] at hk
  apply List.eq_nil_iff_forall_not_mem.2
  intro u hu
  have hu := mem_grey.1 hu
  have hgr := grey_adr hu
  rcases hk u hu with k | k | k | k
  · rw [ho] at k; cases k
  · omega
  · exact absurd hs k.1
  · rw [hw] at k; cases k
end Go.Abs

namespace Go.Abs

/-! Cells lie apart. -/
def hasA' (l : List Page) (a s : Int) : Bool := decide (s ≤ a ∧ a < s + roomAt l s)

theorem one_cell {l : List Page} (hmp : mayP l = true) {a : Int} (h1 : 16 ≤ a) (h2 : a < 16 * ((l.length : Int) + 1)) : ((cellStarts l).filter (hasA' l a)).length ≤ 1 := by
  have ht := tile l 0 0 (by unfold mayP at hmp; rw [Bool.and_eq_true] at hmp; exact hmp.1) (Int.le_refl _) (fun p hp => by
    obtain ⟨i, hi, e⟩ := List.mem_iff_getElem.1 hp
    have := (mayP_ok hmp).1 i hi
    rw [List.getD_eq_getElem?_getD, List.getElem?_eq_getElem hi] at this
    rw [← e]; exact this) a (by omega) (by omega)
  have e0 : cellsAll l = cellsRec 0 l := by
    unfold cellsAll
    rw [if_pos hmp, cellsRec_from l _ 0 rfl]
    rfl
  have e1 : cnt (cellsAll l) a = ((cellStarts l).filter (hasA' l a)).length := by
    unfold cnt cellStarts
    rw [List.filter_map, List.length_map]
    congr 1
    refine List.filter_congr fun x hx => ?_
    show inCell a x = hasA' l a x.1
    unfold inCell hasA'
    rw [roomAt_mem hx]
  rw [← e1, e0]
  omega

theorem two_of {l : List Int} (hn : l.Nodup) {x y : Int} (hx : x ∈ l) (hy : y ∈ l) (hne : x ≠ y) : 2 ≤ l.length := by
  cases l with
  | nil => cases hx
  | cons a r =>
    cases r with
    | nil =>
      rw [List.mem_singleton] at hx hy
      exact absurd (hx.trans hy.symm) hne
    | cons b s => simp

theorem pgo_len : ∀ (l : List Page) (r : Int), pgo r l = true → (∀ p ∈ l, pageOk p) → r ≤ (l.length : Int)
  | [], r, h, _ => by
    unfold pgo at h
    have := of_decide_eq_true h
    simp
    omega
  | p :: l, r, h, hp => by
    unfold pgo at h
    have hl : ((p :: l).length : Int) = (l.length : Int) + 1 := by simp
    by_cases h3 : p.kind = 3
    · rw [decide_eq_true h3] at h
      simp only [cond_true, Bool.and_eq_true] at h
      have := pgo_len l (r - 1) h.2 fun q hq => hp q (List.mem_cons_of_mem _ hq)
      omega
    · rw [decide_eq_false h3] at h
      simp only [cond_false, Bool.and_eq_true, Bool.not_eq_true', decide_eq_false_iff_not] at h
      omega

theorem pgo_big : ∀ (l : List Page) (r : Int) (i : Nat), pgo r l = true → (∀ p ∈ l, pageOk p) → i < l.length → (l.getD i default).kind = 2 → (i : Int) + (l.getD i default).arg ≤ (l.length : Int)
  | [], r, i, _, _, hi, _ => by simp at hi
  | p :: l, r, i, h, hp, hi, hk => by
    unfold pgo at h
    have hl : ((p :: l).length : Int) = (l.length : Int) + 1 := by simp
    have hp' : ∀ q ∈ l, pageOk q := fun q hq => hp q (List.mem_cons_of_mem _ hq)
    have rec_ : ∀ r', pgo r' l = true → ∀ j, i = j + 1 → (i : Int) + ((p :: l).getD i default).arg ≤ ((p :: l).length : Int) := by
      intro r' h' j hj
      subst hj
      have := pgo_big l r' j h' hp' (by simpa using hi) hk
      have e : ((p :: l).getD (j + 1) default) = l.getD j default := rfl
      rw [e]
      omega
    by_cases h3 : p.kind = 3
    · rw [decide_eq_true h3] at h
      simp only [cond_true, Bool.and_eq_true] at h
      cases i with
      | zero => exfalso; have hk : p.kind = 2 := hk; omega
      | succ j => exact rec_ _ h.2 j rfl
    · rw [decide_eq_false h3] at h
      simp only [cond_false, Bool.and_eq_true] at h
      cases i with
      | zero =>
        have hk : p.kind = 2 := hk
        have h2 := h.2
        rw [if_pos hk] at h2
        have := pgo_len l _ h2 hp'
        show ((0 : Nat) : Int) + p.arg ≤ _
        omega
      | succ j => exact rec_ _ h.2 j rfl

theorem pages_ok {l : List Page} (hmp : mayP l = true) : ∀ p ∈ l, pageOk p := by
  intro p hp
  obtain ⟨i, hi, e⟩ := List.mem_iff_getElem.1 hp
  have := (mayP_ok hmp).1 i hi
  rw [List.getD_eq_getElem?_getD, List.getElem?_eq_getElem hi] at this
  rw [← e]; exact this

theorem room_end {l : List Page} {a : Int} (h : roomAt l a ≠ 0) : a + roomAt l a ≤ 16 * ((l.length : Int) + 1) := by
  obtain ⟨hmp, i, hi⟩ := cellOf_mem (roomAt_pos h)
  have hlt := hi.lt
  have hk := hi.kind
  simp only at hk
  rcases hk with ⟨_, _, _, k4, _⟩ | ⟨k1, k2, k3, k4, k5⟩
  · omega
  · have := pgo_big l 0 i (by unfold mayP at hmp; rw [Bool.and_eq_true] at hmp; exact hmp.1) (pages_ok hmp) hlt k1
    omega

/-- No cell begins within another one. -/
theorem inside {l : List Page} {u a : Int} (hr : roomAt l u ≠ 0) (h1 : u < a) (h2 : a < u + roomAt l u) : roomAt l a = 0 := by
  by_cases h : roomAt l a = 0
  · exact h
  · exfalso
    obtain ⟨hmp, i, hi⟩ := cellOf_mem (roomAt_pos hr)
    have hlo := hi.lo
    simp only at hlo
    have hend := room_end hr
    have hone := one_cell hmp (a := a) (by omega) (by omega)
    have hpos := roomAt_nonneg l a
    have hn : ((cellStarts l).filter (hasA' l a)).Nodup := ((starts_sorted l).imp (fun h => by omega) : (cellStarts l).Nodup).sublist List.filter_sublist
    have := two_of hn (x := u) (y := a) (List.mem_filter.2 ⟨mem_starts.2 hr, decide_eq_true ⟨by omega, h2⟩⟩) (List.mem_filter.2 ⟨mem_starts.2 h, decide_eq_true ⟨by omega, by omega⟩⟩) (by omega)
    omega

/-! Fields. -/
theorem field_adr {g : Hp} {u f : Int} (h0 : headE g u = 0) (h1 : 1 ≤ f) (h2 : f ≤ (headH g u).n) : adr g (u + f) ∧ u + f ∉ usedH g := by
  obtain ⟨_, hn1, hn2, had⟩ := head_fits h0
  obtain ⟨_, hr, _⟩ := headE_of h0
  have he := room_end hr
  have had1 := had.1
  refine ⟨⟨by omega, by omega⟩, fun hin => ?_⟩
  have := (headE_of (mem_usedH.1 hin)).2.1
  exact this (inside hr (by omega) (by omega))

theorem wordOf_field {g : Hp} {u f : Int} (h0 : headE g u = 0) (h1 : 1 ≤ f) (h2 : f ≤ (headH g u).n) : wordOf g (u + f) = wordAt g (u + f) := by
  have had := (field_adr h0 h1 h2).1
  obtain ⟨hw, _, hs, _⟩ := shapedH_of (mayH_shaped (headE_of h0).1)
  unfold wordOf
  have ha1 := had.1; have ha2 := had.2
  rw [if_pos ⟨hw, by omega, by omega⟩]

/-- Fields stay where only marks change. -/
theorem Marks.field {g k : Hp} (h : Marks g k) {u f : Int} (h0 : Abs.headE g u = 0) (h1 : 1 ≤ f) (h2 : f ≤ (headH g u).n) : wordAt k (u + f) = wordAt g (u + f) := by
  obtain ⟨had, hnot⟩ := field_adr h0 h1 h2
  have ha1 := had.1
  unfold wordAt at0
  by_cases e : k.w.getD (u + f - 16).toNat 0 = g.w.getD (u + f - 16).toNat 0
  · exact e
  · exfalso
    have := h.word _ e
    rw [show 16 + ((u + f - 16).toNat : Int) = u + f by omega] at this
    exact hnot this

/-! What black objects lead to. -/
def ledQ (P : Int → Prop) (g : Hp) (c : Col) : Prop := ∀ u, P u → atK g c u = 3 → ∀ f : Int, 1 ≤ f → f ≤ (headH g u).n → atK g c (wordAt g (u + f)) ≠ 1
/-- Where the step is: what was gone through leads to nothing white. -/
structure TAt (g : Hp) (c : Col) : Prop where
  f0 : c.at_ ≠ 0 → 0 ≤ c.field_
  fn : atK g c c.at_ = 2 → c.at_ ≠ 0 → c.field_ < (headH g c.at_).n
  led : atK g c c.at_ = 2 → c.at_ ≠ 0 → ∀ f : Int, 1 ≤ f → f ≤ c.field_ → atK g c (wordAt g (c.at_ + f)) ≠ 1

theorem Rises.nonwhite {c : Col} {g k : Hp} (h : Rises c g k) {u : Int} (hu : atK g c u ≠ 1) : atK k c u ≠ 1 := by
  intro e
  have h1 := h.le u
  have h2 := (atK_nonneg g c u).1
  have h3 : atK g c u = 0 := by omega
  have := h.out u h3
  omega

theorem marks_n {g k : Hp} (h : Marks g k) (u : Int) : (headH k u).n = (headH g u).n := (h.head u).2.2.1

/-- The generic part: of what was black all stays so. -/
theorem led_keep {g k : Hp} {c : Col} (hM : Marks g k) (hR : Rises c g k) {u : Int} (h0 : headE g u = 0) {m : Int} (hm : m ≤ (headH g u).n) (h : ∀ f : Int, 1 ≤ f → f ≤ m → atK g c (wordAt g (u + f)) ≠ 1) :
    ∀ f : Int, 1 ≤ f → f ≤ m → atK k c (wordAt k (u + f)) ≠ 1 := by
  intro f h1 h2
  rw [hM.field h0 h1 (by omega)]
  exact hR.nonwhite (h f h1 h2)

theorem TStep.led {P : Int → Prop} {g k : Hp} {c d : Col} (h : TStep g c k d) (hl : ledQ P g c) (ht : TAt g c) : ledQ P k d ∧ TAt k d := by
  have hM := h.marks
  have hR := h.rises
  have hat := h.at
  have hn := marks_n hM
  -- fields of black ones, and of the one that is gone through
  have hblack : ∀ u, P u → atK g c u = 3 → ∀ f : Int, 1 ≤ f → f ≤ (headH k u).n → atK k c (wordAt k (u + f)) ≠ 1 := fun u hP hu f h1 h2 => by
    rw [hn] at h2
    have h0 : headE g u = 0 := atK_ne (c := c) (by omega)
    exact led_keep hM hR h0 (Int.le_refl _) (hl u hP hu) f h1 h2
  have same : k = g → d.at_ = c.at_ → d.field_ = c.field_ → ledQ P k d ∧ TAt k d := by
    intro e1 e2 e3
    subst e1
    refine ⟨fun u hP hu => ?_, ⟨by rw [e2, e3]; exact ht.f0, by rw [hat, e2, e3]; exact ht.fn, ?_⟩⟩
    · rw [hat] at hu
      intro f h1 h2
      rw [hat]
      exact hl u hP hu f h1 h2
    · rw [hat, e2, e3]
      intro h1 h2 f h3 h4
      rw [hat]
      exact ht.led h1 h2 f h3 h4
  have fresh : k = g → d.at_ = 0 ∨ d.field_ = 0 → ledQ P k d ∧ TAt k d := by
    intro e1 e2
    subst e1
    refine ⟨fun u hP hu f h1 h2 => ?_, ⟨fun h => ?_, fun h1 h2 => ?_, fun h1 h2 f h3 h4 => ?_⟩⟩
    · rw [hat] at hu ⊢
      exact hl u hP hu f h1 h2
    · rcases e2 with e2 | e2
      · exact absurd e2 h
      · omega
    · rcases e2 with e2 | e2
      · exact absurd e2 h2
      · rw [hat] at h1
        have := (head_fits (grey_adr h1).1).2.1
        omega
    · rcases e2 with e2 | e2
      · exact absurd e2 h2
      · omega
  cases h
  case idle h => exact same rfl rfl rfl
  case lost hm hp ha h => exact fresh rfl (.inl rfl)
  case pop r x hw => exact fresh rfl (.inr rfl)
  case pass => exact same rfl rfl rfl
  case find => exact fresh rfl (.inr rfl)
  case again => exact same rfl rfl rfl
  case fin => exact fresh rfl (.inl rfl)
  case last hm hp ha h0 h v hv =>
    have hg : atK g c c.at_ = 2 := greyN_pos.1 (by omega)
    have hh := (grey_adr hg).1
    have hN : greyN g c c.at_ = (headH g c.at_).n := if_pos hg
    refine ⟨fun u hP hu f h1 h2 => ?_, ⟨fun h => absurd rfl h, fun _ h => absurd rfl h, fun _ h => absurd rfl h⟩⟩
    rw [hat] at hu ⊢
    by_cases hu3 : atK g c u = 3
    · exact hblack u hP hu3 f h1 h2
    · -- it has become black now
      have hua : u = c.at_ := by
        rw [atK_black] at hu
        by_cases e : u = c.at_ ∧ atK (shadeG g c v) c c.at_ = 2
        · exact e.1
        · rw [if_neg e, atK_shade] at hu
          by_cases e' : u = v ∧ atK g c v = 1
          · rw [if_pos e'] at hu; exact absurd hu (by decide)
          · rw [if_neg e'] at hu; exact absurd hu hu3
      subst hua
      rw [hn] at h2
      by_cases hf : f = c.field_ + 1
      · rw [hM.field hh h1 h2]
        subst hf
        have hvw : v = wordAt g (c.at_ + (c.field_ + 1)) := by
          rw [hv, show c.at_ + 1 + c.field_ = c.at_ + (c.field_ + 1) by omega]
          exact wordOf_field hh h1 h2
        rw [← hvw]
        exact (black_rises (shadeG g c v) c c.at_).nonwhite (by
          rw [atK_shade]
          by_cases e : atK g c v = 1
          · rw [if_pos ⟨rfl, e⟩]; decide
          · rw [if_neg (fun k => e k.2)]; exact e)
      · exact led_keep hM hR hh (m := c.field_) (by omega) (ht.led hg ha) f h1 (by omega)
  case more hm hp ha h0 h v hv =>
    have hg : atK g c c.at_ = 2 := greyN_pos.1 (by omega)
    have hh := (grey_adr hg).1
    have hN : greyN g c c.at_ = (headH g c.at_).n := if_pos hg
    have ea : ({ shadeC g c v with field_ := c.field_ + 1 } : Col).at_ = c.at_ := (shadeC_same g c v).at_
    refine ⟨fun u hP hu f h1 h2 => ?_, ⟨fun _ => ?_, fun _ _ => ?_, fun _ _ f h1 h2 => ?_⟩⟩
    · rw [hat] at hu ⊢
      have hu3 : atK g c u = 3 := by
        rw [atK_shade] at hu
        by_cases e' : u = v ∧ atK g c v = 1
        · rw [if_pos e'] at hu; exact absurd hu (by decide)
        · rw [if_neg e'] at hu; exact hu
      exact hblack u hP hu3 f h1 h2
    · show 0 ≤ c.field_ + 1
      omega
    · rw [ea, hn]
      show c.field_ + 1 < _
      omega
    · rw [hat, ea]
      have h2 : f ≤ c.field_ + 1 := h2
      by_cases hf : f = c.field_ + 1
      · rw [hM.field hh h1 (by omega)]
        subst hf
        have hvw : v = wordAt g (c.at_ + (c.field_ + 1)) := by
          rw [hv, show c.at_ + 1 + c.field_ = c.at_ + (c.field_ + 1) by omega]
          exact wordOf_field hh h1 (by omega)
        rw [← hvw, atK_shade]
        by_cases e : atK g c v = 1
        · rw [if_pos ⟨rfl, e⟩]; decide
        · rw [if_neg (fun k => e k.2)]; exact e
      · exact led_keep hM hR hh (m := c.field_) (by omega) (ht.led hg ha) f h1 (by omega)
end Go.Abs

namespace Go.Abs

/-! Sums over lists. -/
def sumI (l : List Int) (f : Int → Int) : Int := (l.map f).sum

theorem sumI_nil (f : Int → Int) : sumI [] f = 0 := rfl
theorem sumI_cons (x : Int) (l : List Int) (f : Int → Int) : sumI (x :: l) f = f x + sumI l f := by unfold sumI; simp

theorem sumI_congr {l : List Int} {f h : Int → Int} (e : ∀ x ∈ l, f x = h x) : sumI l f = sumI l h := by
  induction l with
  | nil => rfl
  | cons x r ih => rw [sumI_cons, sumI_cons, e x (List.mem_cons_self ..), ih fun y hy => e y (List.mem_cons_of_mem _ hy)]

theorem sumI_le {l : List Int} {f h : Int → Int} (e : ∀ x ∈ l, f x ≤ h x) : sumI l f ≤ sumI l h := by
  induction l with
  | nil => exact Int.le_refl _
  | cons x r ih =>
    rw [sumI_cons, sumI_cons]
    have := e x (List.mem_cons_self ..)
    have := ih fun y hy => e y (List.mem_cons_of_mem _ hy)
    omega

theorem sumI_nonneg {l : List Int} {f : Int → Int} (e : ∀ x ∈ l, 0 ≤ f x) : 0 ≤ sumI l f := by
  induction l with
  | nil => exact Int.le_refl _
  | cons x r ih =>
    rw [sumI_cons]
    have := e x (List.mem_cons_self ..)
    have := ih fun y hy => e y (List.mem_cons_of_mem _ hy)
    omega

/-- A sum of which one summand is another one. -/
theorem sumI_one {l : List Int} (hn : l.Nodup) {f h : Int → Int} {a : Int} (ha : a ∈ l) (e : ∀ x ∈ l, x ≠ a → h x = f x) : sumI l h = sumI l f - f a + h a := by
  induction l with
  | nil => cases ha
  | cons x r ih =>
    rw [List.nodup_cons] at hn
    rw [sumI_cons, sumI_cons]
    by_cases hx : x = a
    · subst hx
      rw [sumI_congr (l := r) (f := h) (h := f) fun y hy => e y (List.mem_cons_of_mem _ hy) fun k => hn.1 (k ▸ hy)]
      omega
    · have ha' : a ∈ r := by
        rcases List.mem_cons.1 ha with k | k
        · exact absurd k.symm hx
        · exact k
      rw [e x (List.mem_cons_self ..) hx, ih hn.2 ha' fun y hy => e y (List.mem_cons_of_mem _ hy)]
      omega

theorem sumI_add (l : List Int) (f h : Int → Int) : sumI l (fun x => f x + h x) = sumI l f + sumI l h := by
  induction l with
  | nil => rfl
  | cons x r ih => rw [sumI_cons, sumI_cons, sumI_cons, ih]; omega

theorem sumI_const (l : List Int) (k : Int) : sumI l (fun _ => k) = k * (l.length : Int) := by
  induction l with
  | nil => simp [sumI_nil]
  | cons x r ih =>
    rw [sumI_cons, ih, List.length_cons]
    have : k * ((r.length + 1 : Nat) : Int) = k * (r.length : Int) + k := by rw [Int.natCast_add, Int.mul_add]; simp
    omega

theorem sumI_filter {l : List Int} (p : Int → Bool) {f : Int → Int} (h : ∀ x ∈ l, 0 ≤ f x) : sumI (l.filter p) f ≤ sumI l f := by
  induction l with
  | nil => exact Int.le_refl _
  | cons x r ih =>
    have := ih fun y hy => h y (List.mem_cons_of_mem _ hy)
    have h0 := h x (List.mem_cons_self ..)
    rw [List.filter_cons]
    cases p x with
    | true => rw [if_pos rfl, sumI_cons, sumI_cons]; omega
    | false => rw [if_neg (by decide), sumI_cons]; omega

/-! All cells' rooms. -/
def roomsRec (i : Nat) (ps : List Page) : Int := ((cellsRec i ps).map (·.2)).sum

theorem sum_rep (n : Nat) (W b : Int) : (((List.range n).map fun i : Nat => (b + (i : Int) * W, W)).map (·.2)).sum = (n : Int) * W := by
  induction n with
  | zero => simp
  | succ n ih =>
    rw [List.range_succ, List.map_append, List.map_append, List.sum_append, ih]
    have : ((n + 1 : Nat) : Int) * W = (n : Int) * W + W := by rw [Int.natCast_add, Int.add_mul]; simp
    rw [this]
    simp

theorem rooms_on {p : Page} {b : Int} (hp : pageOk p) : ((cellsOn p b).map (·.2)).sum = if p.kind = 2 then p.arg * 16 else if p.kind = 1 then 16 else 0 := by
  unfold cellsOn
  by_cases h2 : p.kind = 2
  · rw [if_pos h2, if_pos h2]; simp
  · rw [if_neg h2, if_neg h2]
    by_cases h1 : p.kind = 1
    · rw [if_pos h1, if_pos h1, sum_rep]
      rcases clsWN (hp.1 h1) with ⟨e1, e2⟩ | ⟨e1, e2⟩ | ⟨e1, e2⟩ <;> rw [e1, e2] <;> decide
    · rw [if_neg h1, if_neg h1]; rfl

theorem rooms_le : ∀ (ps : List Page) (i : Nat) (r : Int), pgo r ps = true → 0 ≤ r → (∀ p ∈ ps, pageOk p) → roomsRec i ps + 16 * r ≤ 16 * (ps.length : Int)
  | [], i, r, h, _, _ => by
    unfold pgo at h
    have := of_decide_eq_true h
    subst this
    simp [roomsRec, cellsRec]
  | p :: ps, i, r, h, hr, hp => by
    have hl : ((p :: ps).length : Int) = (ps.length : Int) + 1 := by simp
    have ih := fun r' (h' : pgo r' ps = true) (hr' : 0 ≤ r') => rooms_le ps (i + 1) r' h' hr' fun q hq => hp q (List.mem_cons_of_mem _ hq)
    have e : roomsRec i (p :: ps) = ((cellsOn p (16 * ((i : Int) + 1))).map (·.2)).sum + roomsRec (i + 1) ps := by
      unfold roomsRec
      show ((cellsOn p (16 * ((i : Int) + 1)) ++ cellsRec (i + 1) ps).map (·.2)).sum = _
      rw [List.map_append, List.sum_append]
    have hpp := hp p (List.mem_cons_self ..)
    rw [e, rooms_on hpp, hl]
    unfold pgo at h
    by_cases h3 : p.kind = 3
    · rw [decide_eq_true h3] at h
      simp only [cond_true, Bool.and_eq_true, Bool.not_eq_true', decide_eq_false_iff_not] at h
      have := ih (r - 1) h.2 (by omega)
      rw [if_neg (by omega), if_neg (by omega)]
      omega
    · rw [decide_eq_false h3] at h
      simp only [cond_false, Bool.and_eq_true, Bool.not_eq_true', decide_eq_false_iff_not] at h
      obtain ⟨⟨hf, h0⟩, h⟩ := h
      by_cases hk2 : p.kind = 2
      · rw [if_pos hk2] at h ⊢
        have := hpp.2 hk2
        have := ih _ h (by omega)
        omega
      · rw [if_neg hk2] at h ⊢
        have := ih _ h (by omega)
        split <;> omega

theorem rooms_all {l : List Page} (hmp : mayP l = true) : sumI (cellStarts l) (roomAt l) ≤ 16 * (l.length : Int) := by
  have e0 : cellsAll l = cellsRec 0 l := by
    unfold cellsAll
    rw [if_pos hmp, cellsRec_from l _ 0 rfl]
    rfl
  have e : sumI (cellStarts l) (roomAt l) = roomsRec 0 l := by
    unfold sumI cellStarts roomsRec
    rw [List.map_map, ← e0]
    congr 1
    exact List.map_congr_left fun x hx => roomAt_mem hx
  have := rooms_le l 0 0 (by unfold mayP at hmp; rw [Bool.and_eq_true] at hmp; exact hmp.1) (Int.le_refl _) (pages_ok hmp)
  omega

theorem room_two {l : List Page} {a : Int} (h : roomAt l a ≠ 0) : 2 ≤ roomAt l a := by
  obtain ⟨_, i, hi⟩ := cellOf_mem (roomAt_pos h)
  have hk := hi.kind
  simp only at hk
  rcases hk with ⟨_, k2, k3, _, k5⟩ | ⟨_, k2, k3, _, k5⟩
  · rw [k5]; rcases clsWN ⟨k2, k3⟩ with ⟨e, _⟩ | ⟨e, _⟩ | ⟨e, _⟩ <;> omega
  · omega

theorem starts_half {l : List Page} (hmp : mayP l = true) : 2 * ((cellStarts l).length : Int) ≤ 16 * (l.length : Int) := by
  have h1 := rooms_all hmp
  have h2 : sumI (cellStarts l) (fun _ => 2) ≤ sumI (cellStarts l) (roomAt l) := sumI_le fun x hx => room_two (mem_starts.1 hx)
  rw [sumI_const] at h2
  omega

/-! What is left. -/
/-- What an object costs: its fields, and, if it is white, to be put on the work list, and taken from it. -/
def costU (g : Hp) (c : Col) (u : Int) : Int := if atK g c u = 1 then (headH g u).n + 2 else if atK g c u = 2 then (headH g u).n else 0
def isW (g : Hp) (c : Col) (u : Int) : Int := if atK g c u = 1 then 1 else 0
def numC (g : Hp) : Int := ((cellStarts g.pages).length : Int)
/-- So many cells begin behind. -/
def seekS (g : Hp) (c : Col) : Int := if c.seek ≠ 0 then (((cellStarts g.pages).filter fun s => decide (c.seek < s)).length : Int) + 1 else 0
def atF (g : Hp) (c : Col) : Int := if c.at_ = 0 then 0 else if atK g c c.at_ = 2 then c.field_ else -1
def overV (K : Int) (over : Bool) (l : Nat) : Int := if over = true then 5 * K else K * (if l ≤ 4 then (l : Int) else 4)
def pot (g : Hp) (c : Col) : Int :=
  5 * (sumI (usedH g) (costU g c) - atF g c + 2 * (c.work.length : Int) + seekS g c + 1) + (numC g + 2) * sumI (usedH g) (isW g c) + overV (numC g + 2) c.over c.work.length

theorem used_nodup (g : Hp) : (usedH g).Nodup := (usedH_sorted g).imp fun h => by omega

theorem costU_nonneg (g : Hp) (c : Col) (u : Int) : 0 ≤ costU g c u := by
  unfold costU
  by_cases h1 : atK g c u = 1
  · rw [if_pos h1]
    have := (head_fits (atK_ne (c := c) (g := g) (a := u) (by omega))).2.1
    omega
  · rw [if_neg h1]
    by_cases h2 : atK g c u = 2
    · rw [if_pos h2]
      have := (head_fits (atK_ne (c := c) (g := g) (a := u) (by omega))).2.1
      omega
    · rw [if_neg h2]; exact Int.le_refl _

theorem isW_nonneg (g : Hp) (c : Col) (u : Int) : 0 ≤ isW g c u := by unfold isW; split <;> omega

theorem shade_cost (g : Hp) (c : Col) (v : Int) : sumI (usedH g) (costU (shadeG g c v) c) = sumI (usedH g) (costU g c) - (if atK g c v = 1 then 2 else 0) ∧
    sumI (usedH g) (isW (shadeG g c v) c) = sumI (usedH g) (isW g c) - (if atK g c v = 1 then 1 else 0) := by
  have hn := marks_n (shade_marks g c v)
  by_cases hv : atK g c v = 1
  · rw [if_pos hv, if_pos hv]
    have hin : v ∈ usedH g := mem_usedH.2 (atK_ne (c := c) (by omega))
    have hne : ∀ x, x ≠ v → atK (shadeG g c v) c x = atK g c x := fun x hx => by rw [atK_shade, if_neg (fun k => hx k.1)]
    have hvv : atK (shadeG g c v) c v = 2 := by rw [atK_shade, if_pos ⟨rfl, hv⟩]
    constructor
    · rw [sumI_one (used_nodup g) (f := costU g c) (h := costU (shadeG g c v) c) hin fun x _ hx => by unfold costU; rw [hne x hx, hn]]
      unfold costU
      rw [if_pos hv, if_neg (by omega), if_pos hvv, hn]
      omega
    · rw [sumI_one (used_nodup g) (f := isW g c) (h := isW (shadeG g c v) c) hin fun x _ hx => by unfold isW; rw [hne x hx]]
      unfold isW
      rw [if_pos hv, if_neg (by omega)]
      omega
  · rw [if_neg hv, if_neg hv, shadeG_no hv]
    omega

theorem black_cost {g : Hp} {c : Col} {a : Int} (ha : atK g c a = 2) : sumI (usedH g) (costU (blackG g c a) c) = sumI (usedH g) (costU g c) - (headH g a).n ∧
    sumI (usedH g) (isW (blackG g c a) c) = sumI (usedH g) (isW g c) := by
  have hn := marks_n (black_marks g c a)
  have hin : a ∈ usedH g := mem_usedH.2 (atK_ne (c := c) (by omega))
  have hne : ∀ x, x ≠ a → atK (blackG g c a) c x = atK g c x := fun x hx => by rw [atK_black, if_neg (fun k => hx k.1)]
  have haa : atK (blackG g c a) c a = 3 := by rw [atK_black, if_pos ⟨rfl, ha⟩]
  constructor
  · rw [sumI_one (used_nodup g) (f := costU g c) (h := costU (blackG g c a) c) hin fun x _ hx => by unfold costU; rw [hne x hx, hn]]
    unfold costU
    rw [if_neg (by omega), if_pos ha, if_neg (by omega), if_neg (by omega)]
    omega
  · refine sumI_congr fun x _ => ?_
    unfold isW
    by_cases e : x = a
    · subst e
      rw [if_neg (by omega), if_neg (by omega)]
    · rw [hne x e]

theorem overV_mono {K : Int} (hK : 0 ≤ K) {o : Bool} {l m : Nat} (h : l ≤ m) : overV K o l ≤ overV K o m := by
  unfold overV
  cases o
  · simp only [Bool.false_eq_true, if_false]
    refine Int.mul_le_mul_of_nonneg_left ?_ hK
    by_cases h1 : l ≤ 4
    · rw [if_pos h1]
      split <;> omega
    · rw [if_neg h1, if_neg (by omega)]
      exact Int.le_refl _
  · simp only [if_true]
    exact Int.le_refl _

theorem numC_nonneg (g : Hp) : 0 ≤ numC g := by unfold numC; omega

/-- What shading takes of the potential. -/
theorem shade_pot (g : Hp) (c : Col) (v : Int) {K : Int} (hK : 0 ≤ K) :
    5 * (sumI (usedH g) (costU (shadeG g c v) c) + 2 * ((shadeC g c v).work.length : Int)) + K * sumI (usedH g) (isW (shadeG g c v) c) + overV K (shadeC g c v).over (shadeC g c v).work.length ≤
    5 * (sumI (usedH g) (costU g c) + 2 * (c.work.length : Int)) + K * sumI (usedH g) (isW g c) + overV K c.over c.work.length := by
  obtain ⟨e1, e2⟩ := shade_cost g c v
  rw [e1, e2]
  by_cases hv : atK g c v = 1
  · rw [if_pos hv, if_pos hv, shadeC_yes hv]
    have hmul : K * (sumI (usedH g) (isW g c) - 1) = K * sumI (usedH g) (isW g c) - K := by rw [Int.mul_sub]; simp
    rw [hmul]
    by_cases h4 : c.work.length < 4
    · rw [if_pos h4]
      show 5 * (_ + 2 * ((c.work ++ [v]).length : Int)) + _ + overV K c.over (c.work ++ [v]).length ≤ _
      rw [List.length_append, List.length_singleton]
      unfold overV
      cases c.over
      · simp only [Bool.false_eq_true, if_false]
        rw [if_pos (show c.work.length + 1 ≤ 4 by omega), if_pos (show c.work.length ≤ 4 by omega)]
        have : K * ((c.work.length + 1 : Nat) : Int) = K * (c.work.length : Int) + K := by rw [Int.natCast_add, Int.mul_add]; simp
        omega
      · simp only [if_true]
        omega
    · rw [if_neg h4]
      show 5 * (_ + 2 * (c.work.length : Int)) + _ + overV K true c.work.length ≤ _
      unfold overV
      cases c.over
      · simp only [Bool.false_eq_true, if_false, if_true]
        have h44 : (if c.work.length ≤ 4 then (c.work.length : Int) else 4) = 4 := by split <;> omega
        rw [h44]
        omega
      · simp only [if_true]
        omega
  · rw [if_neg hv, if_neg hv, shadeC_no hv]
    simp

theorem numC_marks {g k : Hp} (h : Marks g k) : numC k = numC g := by unfold numC; rw [h.pages]

theorem filter_lt_len {l : List Int} {a b : Int} (h : a < b) (hb : b ∈ l) : ((l.filter fun s => decide (b < s)).length : Int) + 1 ≤ ((l.filter fun s => decide (a < s)).length : Int) := by
  induction l with
  | nil => cases hb
  | cons x r ih =>
    have hle : ((r.filter fun s => decide (b < s)).length : Int) ≤ ((r.filter fun s => decide (a < s)).length : Int) := by
      have : (r.filter fun s => decide (b < s)).length ≤ (r.filter fun s => decide (a < s)).length := by
        rw [← List.countP_eq_length_filter, ← List.countP_eq_length_filter]
        exact List.countP_mono_left fun x _ hx => by
          have := of_decide_eq_true hx
          exact decide_eq_true (by omega)
      omega
    rw [List.filter_cons, List.filter_cons]
    rcases List.mem_cons.1 hb with e | hb
    · subst e
      rw [decide_eq_false (show ¬ b < b by omega), decide_eq_true h, if_neg (by decide), if_pos rfl, List.length_cons]
      omega
    · have := ih hb
      by_cases hx : b < x
      · rw [decide_eq_true hx, decide_eq_true (show a < x by omega), if_pos rfl, if_pos rfl, List.length_cons, List.length_cons]
        omega
      · rw [decide_eq_false hx, if_neg (by decide)]
        by_cases hx' : a < x
        · rw [decide_eq_true hx', if_pos rfl, List.length_cons]; omega
        · rw [decide_eq_false hx', if_neg (by decide)]; omega

theorem seek_next {g : Hp} {c d : Col} (hs : c.seek ≠ 0) (hd : d.seek = nextS g.pages c.seek) : seekS g d + 1 ≤ seekS g c := by
  unfold seekS
  rw [if_pos hs, hd]
  rcases nextS_cases g.pages c.seek with ⟨h1, h2⟩ | ⟨h1, h2, h3⟩
  · rw [if_neg (fun k => k h1)]
    omega
  · have h6 := (room_adr (h := g) (mem_starts.1 h2)).1
    rw [if_pos (by omega)]
    have := filter_lt_len h1 h2
    omega

theorem pot_step {g k : Hp} {c d : Col} (h : TStep g c k d) (hm : mayH g [] = true) (hp : c.phase = 5) (ht : TAt g c) (hd : d.phase = 5) : pot k d + 5 ≤ pot g c := by
  have hM := h.marks
  have hat := h.at
  have hK : 0 ≤ numC g + 2 := by have := numC_nonneg g; omega
  have hcd : ∀ m, costU m d = costU m c := fun m => by funext u; unfold costU; rw [hat]
  have hwd : ∀ m, isW m d = isW m c := fun m => by funext u; unfold isW; rw [hat]
  unfold pot
  rw [hM.used, numC_marks hM, hcd, hwd]
  cases h
  case idle h => exact absurd ⟨hm, hp⟩ h
  case lost _ _ ha h =>
    have hng : atK g c c.at_ ≠ 2 := by
      intro hg
      have h1 := ht.f0 ha
      have h2 := ht.fn hg ha
      have h3 : greyN g c c.at_ = (headH g c.at_).n := if_pos hg
      omega
    have e1 : atF g c = -1 := by unfold atF; rw [if_neg ha, if_neg hng]
    have e2 : atF g { c with at_ := 0, field_ := 0 } = 0 := by unfold atF; rw [if_pos rfl]
    have e3 : seekS g { c with at_ := 0, field_ := 0 } = seekS g c := rfl
    rw [e1, e2, e3]
    show 5 * (_ - 0 + 2 * (c.work.length : Int) + _ + 1) + _ + overV _ c.over c.work.length + 5 ≤ _
    omega
  case last _ _ ha h0 h v hv =>
    have hg : atK g c c.at_ = 2 := greyN_pos.1 (by have := (shade_cost g c v); omega)
    have hN : greyN g c c.at_ = (headH g c.at_).n := if_pos hg
    have hg1 : atK (shadeG g c v) c c.at_ = 2 := by rw [atK_shade, if_neg (fun k => by have := k.2; rw [← k.1] at this; omega)]; exact hg
    obtain ⟨b1, b2⟩ := black_cost hg1
    rw [shadeG_used] at b1 b2
    have hn1 := marks_n (shade_marks g c v) c.at_
    rw [hn1] at b1
    have sp := shade_pot g c v hK
    rw [b1, b2]
    have e1 : atF g c = c.field_ := by unfold atF; rw [if_neg ha, if_pos hg]
    have e2 : atF (blackG (shadeG g c v) c c.at_) { shadeC g c v with at_ := 0, field_ := 0 } = 0 := by unfold atF; rw [if_pos rfl]
    have e3 : seekS (blackG (shadeG g c v) c c.at_) { shadeC g c v with at_ := 0, field_ := 0 } = seekS g c := by
      unfold seekS
      rw [hM.pages]
      show (if (shadeC g c v).seek ≠ 0 then _ else _) = _
      rw [(shadeC_same g c v).seek]
    rw [e1, e2, e3]
    show 5 * (_ - _ - 0 + 2 * ((shadeC g c v).work.length : Int) + _ + 1) + _ + overV _ (shadeC g c v).over (shadeC g c v).work.length + 5 ≤ _
    omega
  case more _ _ ha h0 h v hv =>
    have hg : atK g c c.at_ = 2 := greyN_pos.1 (by omega)
    have hg1 : atK (shadeG g c v) c c.at_ = 2 := by rw [atK_shade, if_neg (fun k => by have := k.2; rw [← k.1] at this; omega)]; exact hg
    have sp := shade_pot g c v hK
    have ea : ({ shadeC g c v with field_ := c.field_ + 1 } : Col).at_ = c.at_ := (shadeC_same g c v).at_
    have e1 : atF g c = c.field_ := by unfold atF; rw [if_neg ha, if_pos hg]
    have e2 : atF (shadeG g c v) { shadeC g c v with field_ := c.field_ + 1 } = c.field_ + 1 := by unfold atF; rw [ea, if_neg ha, hat, if_pos hg1]
    have e3 : seekS (shadeG g c v) { shadeC g c v with field_ := c.field_ + 1 } = seekS g c := by
      unfold seekS
      rw [hM.pages]
      show (if (shadeC g c v).seek ≠ 0 then _ else _) = _
      rw [(shadeC_same g c v).seek]
    rw [e1, e2, e3]
    show 5 * (_ - (c.field_ + 1) + 2 * ((shadeC g c v).work.length : Int) + _ + 1) + _ + overV _ (shadeC g c v).over (shadeC g c v).work.length + 5 ≤ _
    omega
  case pop _ _ ha r x hw =>
    have e1 : atF g c = 0 := by unfold atF; rw [if_pos ha]
    have e2 : -1 ≤ atF g { c with at_ := x, field_ := 0, work := r } := by
      unfold atF
      by_cases h1 : ({ c with at_ := x, field_ := 0, work := r } : Col).at_ = 0
      · rw [if_pos h1]; omega
      · rw [if_neg h1]
        split
        · show (-1 : Int) ≤ 0; omega
        · exact Int.le_refl _
    have e3 : seekS g { c with at_ := x, field_ := 0, work := r } = seekS g c := rfl
    have hl : c.work.length = r.length + 1 := by rw [hw]; simp
    have ov := overV_mono hK (o := c.over) (l := r.length) (m := c.work.length) (by omega)
    rw [e1, e3]
    show 5 * (_ - atF g { c with at_ := x, field_ := 0, work := r } + 2 * (r.length : Int) + _ + 1) + _ + overV _ c.over r.length + 5 ≤ _
    omega
  case pass _ _ ha hw hs hg =>
    have e1 : atF g c = 0 := by unfold atF; rw [if_pos ha]
    have e2 : atF g { c with seek := nextS g.pages c.seek } = 0 := by unfold atF; rw [if_pos ha]
    have e3 := seek_next (g := g) (c := c) (d := { c with seek := nextS g.pages c.seek }) hs rfl
    rw [e1, e2]
    show 5 * (_ - 0 + 2 * (c.work.length : Int) + seekS g { c with seek := nextS g.pages c.seek } + 1) + _ + overV _ c.over c.work.length + 5 ≤ _
    omega
  case find _ _ ha hw hs hg =>
    have hg' : atK g c (nextS g.pages c.seek) = 2 := greyN_pos.1 hg
    have e1 : atF g c = 0 := by unfold atF; rw [if_pos ha]
    have e2 : atF g { c with seek := nextS g.pages c.seek, at_ := nextS g.pages c.seek, field_ := 0 } = 0 := by
      unfold atF
      split
      · rfl
      · rw [if_pos (by rw [hat]; exact hg')]
    have e3 := seek_next (g := g) (c := c) (d := { c with seek := nextS g.pages c.seek, at_ := nextS g.pages c.seek, field_ := 0 }) hs rfl
    rw [e1, e2]
    show 5 * (_ - 0 + 2 * (c.work.length : Int) + seekS g { c with seek := nextS g.pages c.seek, at_ := nextS g.pages c.seek, field_ := 0 } + 1) + _ + overV _ c.over c.work.length + 5 ≤ _
    omega
  case again _ _ ha hw hs ho =>
    have e1 : atF g c = 0 := by unfold atF; rw [if_pos ha]
    have e2 : atF g { c with over := false, seek := 1 } = 0 := by unfold atF; rw [if_pos ha]
    have e3 : seekS g c = 0 := by unfold seekS; rw [if_neg (fun k => k hs)]
    have e4 : seekS g { c with over := false, seek := 1 } ≤ numC g + 1 := by
      unfold seekS numC
      rw [if_pos (show (1 : Int) ≠ 0 by decide)]
      have := List.length_filter_le (fun s => decide ((1 : Int) < s)) (cellStarts g.pages)
      show ((List.filter (fun s => decide ((1 : Int) < s)) (cellStarts g.pages)).length : Int) + 1 ≤ _
      omega
    have hl0 : c.work.length = 0 := by rw [hw]; rfl
    have ov1 : overV (numC g + 2) c.over c.work.length = 5 * (numC g + 2) := by unfold overV; rw [if_pos ho]
    have ov2 : overV (numC g + 2) false c.work.length = 0 := by
      rw [hl0]
      unfold overV
      simp
    rw [e1, e2, e3, ov1]
    show 5 * (_ - 0 + 2 * (c.work.length : Int) + seekS g { c with over := false, seek := 1 } + 1) + _ + overV _ false c.work.length + 5 ≤ _
    rw [ov2]
    omega
  case fin => exact absurd (show (6 : Int) = 5 from hd) (by decide)

theorem pot_pos {g : Hp} {c : Col} (ht : TAt g c) : 5 ≤ pot g c := by
  unfold pot
  have h1 : 0 ≤ sumI (usedH g) (isW g c) := sumI_nonneg fun x _ => isW_nonneg g c x
  have h2 : 0 ≤ (numC g + 2) * sumI (usedH g) (isW g c) := Int.mul_nonneg (by have := numC_nonneg g; omega) h1
  have h3 : 0 ≤ overV (numC g + 2) c.over c.work.length := by
    unfold overV
    have := numC_nonneg g
    split
    · omega
    · refine Int.mul_nonneg (by omega) ?_
      split <;> omega
  have h4 : 0 ≤ seekS g c := by unfold seekS; split <;> omega
  have h5 : atF g c ≤ sumI (usedH g) (costU g c) := by
    have h0 : 0 ≤ sumI (usedH g) (costU g c) := sumI_nonneg fun x _ => costU_nonneg g c x
    unfold atF
    by_cases ha : c.at_ = 0
    · rw [if_pos ha]; exact h0
    · rw [if_neg ha]
      by_cases hg : atK g c c.at_ = 2
      · rw [if_pos hg]
        have hfn := ht.fn hg ha
        have hin : c.at_ ∈ usedH g := mem_usedH.2 (atK_ne (c := c) (by omega))
        have := sumI_one (used_nodup g) (f := costU g c) (h := fun x => if x = c.at_ then 0 else costU g c x) hin fun x _ hx => if_neg hx
        have h6 : 0 ≤ sumI (usedH g) (fun x => if x = c.at_ then 0 else costU g c x) := sumI_nonneg fun x _ => by
          show 0 ≤ (if x = c.at_ then 0 else costU g c x)
          split
          · exact Int.le_refl _
          · exact costU_nonneg g c x
        have h7 : costU g c c.at_ = (headH g c.at_).n := by unfold costU; rw [if_neg (by omega), if_pos hg]
        simp only [if_true] at this
        omega
      · rw [if_neg hg]; omega
  omega

theorem pot_start {g : Hp} {c : Col} (hm : mayH g [] = true) (ha : c.at_ = 0) (hs : c.seek = 0) (hw : c.work.length ≤ 4) : pot g c ≤ 5 * ((g.w.length : Int) * (g.w.length : Int) / 4 + 40) := by
  obtain ⟨_, hmp, hsl, _, _, h64⟩ := shapedH_of (mayH_shaped hm)
  have hC := starts_half hmp
  have hrm := rooms_all hmp
  have hU : ((usedH g).length : Int) ≤ numC g := by
    unfold numC
    rw [usedH_eq hm]
    have := List.length_filter_le (fun a => wordAt g a != 0) (cellStarts g.pages)
    omega
  have h1 : sumI (usedH g) (costU g c) ≤ sumI (usedH g) (roomAt g.pages) + ((usedH g).length : Int) := by
    have e : sumI (usedH g) (roomAt g.pages) + ((usedH g).length : Int) = sumI (usedH g) (fun x => roomAt g.pages x + 1) := by
      rw [sumI_add, sumI_const]
      omega
    rw [e]
    refine sumI_le fun x hx => ?_
    have := (head_fits (mem_usedH.1 hx)).2.2.1
    unfold costU
    split
    · omega
    · split
      · omega
      · have := (head_fits (mem_usedH.1 hx)).2.1
        omega
  have h2 : sumI (usedH g) (roomAt g.pages) ≤ sumI (cellStarts g.pages) (roomAt g.pages) := by
    rw [usedH_eq hm]
    exact sumI_filter _ fun x _ => roomAt_nonneg _ _
  have h3 : sumI (usedH g) (isW g c) ≤ ((usedH g).length : Int) := by
    have : sumI (usedH g) (isW g c) ≤ sumI (usedH g) (fun _ => 1) := sumI_le fun x _ => by unfold isW; split <;> omega
    rw [sumI_const] at this
    omega
  have h30 : 0 ≤ sumI (usedH g) (isW g c) := sumI_nonneg fun x _ => isW_nonneg g c x
  have hK := numC_nonneg g
  unfold numC at *
  have e1 : atF g c = 0 := by unfold atF; rw [if_pos ha]
  have e2 : seekS g c = 0 := by unfold seekS; rw [if_neg (fun k => k hs)]
  unfold pot numC
  rw [e1, e2]
  generalize sumI (usedH g) (isW g c) = w at *
  generalize hCe : ((cellStarts g.pages).length : Int) = C at *
  have hov : overV (C + 2) c.over c.work.length ≤ 5 * (C + 2) := by
    unfold overV
    split
    · exact Int.le_refl _
    · exact Int.le_trans (Int.mul_le_mul_of_nonneg_left (show (c.work.length : Int) ≤ 5 by omega) (by omega)) (Int.le_of_eq (Int.mul_comm _ _))
  have hmw : (C + 2) * w ≤ (C + 2) * C := Int.mul_le_mul_of_nonneg_left (by omega) (by omega)
  have hsl' : (g.w.length : Int) = 16 * (g.pages.length : Int) := by omega
  obtain ⟨m, hm2⟩ : ∃ m : Int, m = 8 * (g.pages.length : Int) := ⟨_, rfl⟩
  have hW : (g.w.length : Int) = 2 * m := by omega
  have hCm : C ≤ m := by omega
  have hsq : (g.w.length : Int) * (g.w.length : Int) / 4 = m * m := by
    rw [hW, show (2 * m) * (2 * m) = 4 * (m * m) by rw [Int.mul_assoc, Int.mul_left_comm m 2 m, ← Int.mul_assoc]; rfl]
    omega
  rw [hsq]
  have hCC : (C + 2) * C ≤ m * m + 2 * m := by
    have a1 : (C + 2) * C ≤ (m + 2) * m := Int.mul_le_mul (by omega) hCm (by omega) (by omega)
    have a2 : (m + 2) * m = m * m + 2 * m := by rw [Int.add_mul]
    omega
  have hmm : 8 * m ≤ m * m := Int.mul_le_mul_of_nonneg_right (by omega) (by omega)
  generalize (C + 2) * w = A at *
  generalize (C + 2) * C = B at *
  generalize m * m = Q at *
  omega

/-! Runs of steps. -/
def trN (g : Hp) (c : Col) : Nat → Hp × Col
  | 0 => (g, c)
  | n + 1 => traceS (trN g c n).1 (trN g c n).2

theorem trN_step (g : Hp) (c : Col) (n : Nat) : TStep (trN g c n).1 (trN g c n).2 (trN g c (n + 1)).1 (trN g c (n + 1)).2 := trace_step _ _

theorem TStep.fin6 {k m : Hp} {d e : Col} (hs : TStep k d m e) (hp : d.phase = 5) (hd : e.phase = 6) : e.at_ = 0 ∧ e.work = [] ∧ e.seek = 0 ∧ e.over = false := by
  cases hs
  case idle => omega
  case lost => have : d.phase = 6 := hd; omega
  case last v hv => have : (shadeC k d v).phase = 6 := hd; rw [(shadeC_same k d v).phase] at this; omega
  case more v hv => have : (shadeC k d v).phase = 6 := hd; rw [(shadeC_same k d v).phase] at this; omega
  case pop => have : d.phase = 6 := hd; omega
  case pass => have : d.phase = 6 := hd; omega
  case find => have : d.phase = 6 := hd; omega
  case again => have : d.phase = 6 := hd; omega
  case fin hw hs ho => exact ⟨rfl, hw, rfl, ho⟩

/-- What holds of a run that began at nothing. -/
structure Run (P : Int → Prop) (g : Hp) (c : Col) (i : Nat) (k : Hp) (d : Col) : Prop where
  marks : Marks g k
  rises : Rises c g k
  epoch : d.epoch = c.epoch
  major : d.major = c.major
  phase : d.phase = 5 ∨ d.phase = 6
  known : knownB k d = true
  tat : TAt k d
  led : ledQ P k d
  w100 : d.work.length ≤ 100
  pot : d.phase = 5 → pot k d + 5 * (i : Int) ≤ pot g c
  over : d.phase = 6 → greyH k d = [] ∧ d.work = [] ∧ d.over = false ∧ d.at_ = 0 ∧ d.seek = 0

theorem Run.start {P : Int → Prop} {g : Hp} {c : Col} (hp : c.phase = 5) (hk : knownB g c = true) (ha : c.at_ = 0) (hw : c.work.length ≤ 100) (hl : ledQ P g c) : Run P g c 0 g c :=
  ⟨.refl g, .refl c g, rfl, rfl, .inl hp, hk, ⟨fun h => absurd ha h, fun _ h => absurd ha h, fun _ h => absurd ha h⟩, hl, hw, fun _ => by simp, fun h => by omega⟩

theorem Run.at {P : Int → Prop} {g k : Hp} {c d : Col} {i : Nat} (h : Run P g c i k d) (m : Hp) (u : Int) : atK m d u = atK m c u := atK_col h.epoch h.major m u

theorem Run.step {P : Int → Prop} {g k : Hp} {c d : Col} {i : Nat} (h : Run P g c i k d) (hm : mayH g [] = true) (hp : d.phase = 5) : Run P g c (i + 1) (traceS k d).1 (traceS k d).2 := by
  have hs := trace_step k d
  have hm' : mayH k [] = true := by rw [h.marks.may]; exact hm
  obtain ⟨c1, c2, c3⟩ := hs.col
  obtain ⟨l1, l2⟩ := hs.led h.led h.tat
  have hkn := hs.known h.known fun hg => by
    have hne : d.at_ ≠ 0 := by have := (grey_adr hg).2.2; omega
    exact ⟨h.tat.f0 hne, h.tat.fn hg hne⟩
  refine ⟨h.marks.trans hs.marks, h.rises.trans ?_, c1.trans h.epoch, c2.trans h.major, ?_, hkn, l2, l1, hs.work100 h.w100, ?_, ?_⟩
  · have hr := hs.rises
    exact ⟨fun u => by have := hr.le u; rw [h.at, h.at] at this; exact this, fun u e => by have := hr.out u (by rw [h.at]; exact e); rw [h.at] at this; exact this⟩
  · rcases c3 with e | e
    · exact .inl (e.trans hp)
    · exact .inr e.2
  · intro hd
    have h1 := pot_step hs hm' hp h.tat hd
    have h2 := h.pot hp
    omega
  · intro hd
    have hfin := hs.fin6 hp hd
    exact ⟨known_none hkn hfin.1 hfin.2.1 hfin.2.2.1 hfin.2.2.2, hfin.2.1, hfin.2.2.2, hfin.1, hfin.2.2.1⟩

/-- The steps that are allowed are enough. -/
theorem Run.ends {P : Int → Prop} {g k : Hp} {c d : Col} {i : Nat} (h : Run P g c i k d) (hm : mayH g [] = true) (ha : c.at_ = 0) (hs : c.seek = 0) (hw : c.work.length ≤ 4) (hi : ((g.w.length : Int) * (g.w.length : Int) / 4 + 40) ≤ (i : Int)) : d.phase = 6 := by
  rcases h.phase with e | e
  · exfalso
    have h1 := h.pot e
    have h2 := pot_pos h.tat
    have h3 := pot_start hm ha hs hw
    omega
  · exact e
end Go.Abs
