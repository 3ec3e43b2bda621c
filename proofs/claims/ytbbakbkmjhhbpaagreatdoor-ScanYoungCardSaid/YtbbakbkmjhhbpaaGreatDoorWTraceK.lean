/- A step of going through what is grey, in plain Lean. -/
import Derived.Test.YtbbakbkmjhhbpaaGreatDoorWShadeK
import Derived.Test.YtbbakbkmjhhbpaaGreatDoorWBegins
import Derived.Test.YtbbakbkmjhhbpaaGreatDoorWTile
set_option linter.all false
set_option linter.unusedVariables false
set_option linter.unusedSimpArgs false
namespace Go.Abs

/-- Only marks differ. -/
structure Marks (g k : Hp) : Prop where
  pages : k.pages = g.pages
  free : k.free = g.free
  cards : k.cards = g.cards
  len : k.w.length = g.w.length
  may : ∀ cs, mayH k cs = mayH g cs
  whole : ∀ cs, wholeH k cs = wholeH g cs
  used : usedH k = usedH g
  headE : ∀ u, Abs.headE k u = Abs.headE g u
  head : ∀ u, (headH k u).used = (headH g u).used ∧ (headH k u).old = (headH g u).old ∧ (headH k u).n = (headH g u).n ∧ (headH k u).born = (headH g u).born
  word : ∀ i : Nat, k.w.getD i default ≠ g.w.getD i default → 16 + (i : Int) ∈ usedH g

theorem Marks.refl (g : Hp) : Marks g g := ⟨rfl, rfl, rfl, rfl, fun _ => rfl, fun _ => rfl, rfl, fun _ => rfl, fun _ => ⟨rfl, rfl, rfl, rfl⟩, fun _ h => absurd rfl h⟩

theorem Marks.trans {g k m : Hp} (h : Marks g k) (h' : Marks k m) : Marks g m := by
  refine ⟨h'.pages.trans h.pages, h'.free.trans h.free, h'.cards.trans h.cards, h'.len.trans h.len, fun cs => (h'.may cs).trans (h.may cs), fun cs => (h'.whole cs).trans (h.whole cs), h'.used.trans h.used, fun u => (h'.headE u).trans (h.headE u), fun u => ?_, fun i hi => ?_⟩
  · obtain ⟨a1, a2, a3, a4⟩ := h.head u
    obtain ⟨b1, b2, b3, b4⟩ := h'.head u
    exact ⟨b1.trans a1, b2.trans a2, b3.trans a3, b4.trans a4⟩
  · by_cases e : k.w.getD i default = g.w.getD i default
    · have := h'.word i (by rw [e]; exact hi)
      rw [h.used] at this
      exact this
    · exact h.word i e

theorem Marks.few {g k : Hp} (h : Marks g k) : fewH k = fewH g := few_same h.len h.pages h.free (by rw [h.cards])

theorem shade_marks (g : Hp) (c : Col) (a : Int) : Marks g (shadeG g c a) := by
  obtain ⟨e1, e2, e3, e4⟩ := shadeG_rest g c a
  refine ⟨e1, e2, e3, e4, shadeG_may g c a, shadeG_whole g c a, shadeG_used g c a, fun u => (shadeG_head g c a u).1, fun u => ?_, fun i hi => ?_⟩
  · rw [(shadeG_head g c a u).2]
    by_cases e : u = a ∧ atK g c a = 1
    · rw [if_pos e, e.1]; exact ⟨rfl, rfl, rfl, rfl⟩
    · rw [if_neg e]; exact ⟨rfl, rfl, rfl, rfl⟩
  · obtain ⟨h1, h2⟩ := shadeG_word g c a i hi
    rw [show 16 + (i : Int) = a by omega]
    exact mem_usedH.2 (mark_may h2).1

theorem black_marks (g : Hp) (c : Col) (a : Int) : Marks g (blackG g c a) := by
  obtain ⟨e1, e2, e3, e4⟩ := blackG_rest g c a
  refine ⟨e1, e2, e3, e4, blackG_may g c a, blackG_whole g c a, blackG_used g c a, fun u => (blackG_head g c a u).1, fun u => ?_, fun i hi => ?_⟩
  · rw [(blackG_head g c a u).2]
    by_cases e : u = a ∧ atK g c a = 2
    · rw [if_pos e, e.1]; exact ⟨rfl, rfl, rfl, rfl⟩
    · rw [if_neg e]; exact ⟨rfl, rfl, rfl, rfl⟩
  · obtain ⟨h1, h2⟩ := blackG_word g c a i hi
    rw [show 16 + (i : Int) = a by omega]
    exact mem_usedH.2 (done_may h2).1

/-- So many fields has a grey object. -/
def greyN (g : Hp) (c : Col) (a : Int) : Int := if atK g c a = 2 then (headH g a).n else 0
/-- What an address's word is; nought, if it is nobody's. -/
def wordOf (g : Hp) (a : Int) : Int := if mayW g.w = true ∧ 16 ≤ a ∧ a < 16 + (g.w.length : Int) then wordAt g a else 0
/-- The first cell behind an address. -/
def nextS (l : List Page) (a : Int) : Int := ((cellStarts l).find? fun s => decide (a < s)).getD 0

def fieldS (g : Hp) (c : Col) : Hp × Col :=
  if c.field_ < 0 ∨ greyN g c c.at_ ≤ c.field_ then (g, { c with at_ := 0, field_ := 0 })
  else if c.field_ + 1 = greyN g c c.at_ then (blackG (shadeG g c (wordOf g (c.at_ + 1 + c.field_))) c c.at_, { shadeC g c (wordOf g (c.at_ + 1 + c.field_)) with at_ := 0, field_ := 0 })
  else (shadeG g c (wordOf g (c.at_ + 1 + c.field_)), { shadeC g c (wordOf g (c.at_ + 1 + c.field_)) with field_ := c.field_ + 1 })

def traceS (g : Hp) (c : Col) : Hp × Col :=
  if mayH g [] = true ∧ c.phase = 5 then
    (if c.at_ ≠ 0 then fieldS g c
     else if 0 < c.work.length then (g, { c with at_ := at0 c.work (c.work.length - 1), field_ := 0, work := c.work.take (c.work.length - 1) })
     else if c.seek ≠ 0 then (if greyN g c (nextS g.pages c.seek) = 0 then (g, { c with seek := nextS g.pages c.seek }) else (g, { c with seek := nextS g.pages c.seek, at_ := nextS g.pages c.seek, field_ := 0 }))
     else if c.over = true then (g, { c with over := false, seek := 1 })
     else (g, { c with phase := 6, at_ := 0, field_ := 0, seek := 0, card := 0, met := false }))
  else (g, c)

/-- What is known of a colour: it does not fall; what is out stays so. -/
structure Rises (c : Col) (g k : Hp) : Prop where
  le : ∀ u, atK g c u ≤ atK k c u
  out : ∀ u, atK g c u = 0 → atK k c u = 0

theorem Rises.refl (c : Col) (g : Hp) : Rises c g g := ⟨fun _ => Int.le_refl _, fun _ h => h⟩
theorem Rises.trans {c : Col} {g k m : Hp} (h : Rises c g k) (h' : Rises c k m) : Rises c g m := ⟨fun u => Int.le_trans (h.le u) (h'.le u), fun u e => h'.out u (h.out u e)⟩
theorem shade_rises (g : Hp) (c : Col) (a : Int) : Rises c g (shadeG g c a) := by
  constructor
  · intro u
    rw [atK_shade]
    by_cases e : u = a ∧ atK g c a = 1
    · rw [if_pos e, e.1, e.2]; decide
    · rw [if_neg e]; exact Int.le_refl _
  · intro u h0
    rw [atK_shade, if_neg]
    · exact h0
    · rintro ⟨e, h⟩
      subst e
      omega
theorem black_rises (g : Hp) (c : Col) (a : Int) : Rises c g (blackG g c a) := by
  constructor
  · intro u
    rw [atK_black]
    by_cases e : u = a ∧ atK g c a = 2
    · rw [if_pos e, e.1, e.2]; decide
    · rw [if_neg e]; exact Int.le_refl _
  · intro u h0
    rw [atK_black, if_neg]
    · exact h0
    · rintro ⟨e, h⟩
      subst e
      omega

/-- A step, case by case. -/
inductive TStep (g : Hp) (c : Col) : Hp → Col → Prop
  | idle (h : ¬ (mayH g [] = true ∧ c.phase = 5)) : TStep g c g c
  | lost (hm : mayH g [] = true) (hp : c.phase = 5) (ha : c.at_ ≠ 0) (h : c.field_ < 0 ∨ greyN g c c.at_ ≤ c.field_) : TStep g c g { c with at_ := 0, field_ := 0 }
  | last (hm : mayH g [] = true) (hp : c.phase = 5) (ha : c.at_ ≠ 0) (h0 : 0 ≤ c.field_) (h : c.field_ + 1 = greyN g c c.at_) (v : Int) (hv : v = wordOf g (c.at_ + 1 + c.field_)) :
      TStep g c (blackG (shadeG g c v) c c.at_) { shadeC g c v with at_ := 0, field_ := 0 }
  | more (hm : mayH g [] = true) (hp : c.phase = 5) (ha : c.at_ ≠ 0) (h0 : 0 ≤ c.field_) (h : c.field_ + 1 < greyN g c c.at_) (v : Int) (hv : v = wordOf g (c.at_ + 1 + c.field_)) :
      TStep g c (shadeG g c v) { shadeC g c v with field_ := c.field_ + 1 }
  | pop (hm : mayH g [] = true) (hp : c.phase = 5) (ha : c.at_ = 0) (r : List Int) (x : Int) (hw : c.work = r ++ [x]) : TStep g c g { c with at_ := x, field_ := 0, work := r }
  | pass (hm : mayH g [] = true) (hp : c.phase = 5) (ha : c.at_ = 0) (hw : c.work = []) (hs : c.seek ≠ 0) (hg : greyN g c (nextS g.pages c.seek) = 0) : TStep g c g { c with seek := nextS g.pages c.seek }
  | find (hm : mayH g [] = true) (hp : c.phase = 5) (ha : c.at_ = 0) (hw : c.work = []) (hs : c.seek ≠ 0) (hg : greyN g c (nextS g.pages c.seek) ≠ 0) : TStep g c g { c with seek := nextS g.pages c.seek, at_ := nextS g.pages c.seek, field_ := 0 }
  | again (hm : mayH g [] = true) (hp : c.phase = 5) (ha : c.at_ = 0) (hw : c.work = []) (hs : c.seek = 0) (ho : c.over = true) : TStep g c g { c with over := false, seek := 1 }
  | fin (hm : mayH g [] = true) (hp : c.phase = 5) (ha : c.at_ = 0) (hw : c.work = []) (hs : c.seek = 0) (ho : c.over = false) : TStep g c g { c with phase := 6, at_ := 0, field_ := 0, seek := 0, card := 0, met := false }

theorem take_last {l : List Int} (h : 0 < l.length) : l = l.take (l.length - 1) ++ [at0 l (l.length - 1)] := by
  have h1 : l.length - 1 < l.length := by omega
  have := take_at0 h1
  rw [show l.length - 1 + 1 = l.length by omega, List.take_length] at this
  exact this

theorem trace_step (g : Hp) (c : Col) : TStep g c (traceS g c).1 (traceS g c).2 := by
  unfold traceS
  by_cases hm : mayH g [] = true ∧ c.phase = 5
  · rw [if_pos hm]
    by_cases ha : c.at_ ≠ 0
    · rw [if_pos ha]
      unfold fieldS
      by_cases hf : c.field_ < 0 ∨ greyN g c c.at_ ≤ c.field_
      · rw [if_pos hf]
        exact .lost hm.1 hm.2 ha hf
      · rw [if_neg hf]
        by_cases hl : c.field_ + 1 = greyN g c c.at_
        · rw [if_pos hl]
          exact .last hm.1 hm.2 ha (by omega) hl _ rfl
        · rw [if_neg hl]
          exact .more hm.1 hm.2 ha (by omega) (by omega) _ rfl
    · rw [if_neg ha]
      have ha : c.at_ = 0 := by simpa using ha
      by_cases hw : 0 < c.work.length
      · rw [if_pos hw]
        exact .pop hm.1 hm.2 ha _ _ (take_last hw)
      · rw [if_neg hw]
        have hw : c.work = [] := List.eq_nil_of_length_eq_zero (by omega)
        by_cases hs : c.seek ≠ 0
        · rw [if_pos hs]
          by_cases hg : greyN g c (nextS g.pages c.seek) = 0
          · rw [if_pos hg]
            exact .pass hm.1 hm.2 ha hw hs hg
          · rw [if_neg hg]
            exact .find hm.1 hm.2 ha hw hs hg
        · rw [if_neg hs]
          have hs : c.seek = 0 := by simpa using hs
          by_cases ho : c.over = true
          · rw [if_pos ho]
            exact .again hm.1 hm.2 ha hw hs ho
          · rw [if_neg ho]
            exact .fin hm.1 hm.2 ha hw hs (by simpa using ho)
  · rw [if_neg hm]
    exact .idle hm

theorem TStep.marks {g k : Hp} {c d : Col} (h : TStep g c k d) : Marks g k := by
  cases h
  case last v hv => exact (shade_marks g c v).trans (black_marks _ c c.at_)
  case more v hv => exact shade_marks g c v
  all_goals exact .refl g

theorem TStep.rises {g k : Hp} {c d : Col} (h : TStep g c k d) : Rises c g k := by
  cases h
  case last v hv => exact (shade_rises g c v).trans (black_rises _ c c.at_)
  case more v hv => exact shade_rises g c v
  all_goals exact .refl c g

theorem TStep.col {g k : Hp} {c d : Col} (h : TStep g c k d) : d.epoch = c.epoch ∧ d.major = c.major ∧ (d.phase = c.phase ∨ c.phase = 5 ∧ d.phase = 6) := by
  cases h
  case last v hv => exact ⟨(shadeC_same g c v).epoch, (shadeC_same g c v).major, .inl (shadeC_same g c v).phase⟩
  case more v hv => exact ⟨(shadeC_same g c v).epoch, (shadeC_same g c v).major, .inl (shadeC_same g c v).phase⟩
  case fin => exact ⟨rfl, rfl, .inr ⟨by assumption, rfl⟩⟩
  all_goals exact ⟨rfl, rfl, .inl rfl⟩

theorem TStep.at {g k : Hp} {c d : Col} (h : TStep g c k d) (m : Hp) (u : Int) : atK m d u = atK m c u := atK_col h.col.1 h.col.2.1 m u

theorem TStep.work {g k : Hp} {c d : Col} (h : TStep g c k d) : d.work.length ≤ c.work.length + 1 := by
  have hsh : ∀ v, (shadeC g c v).work.length ≤ c.work.length + 1 := fun v => by
    by_cases e : atK g c v = 1
    · rw [shadeC_yes e]
      split
      · show (c.work ++ [v]).length ≤ _
        rw [List.length_append]
        exact Nat.le_refl _
      · exact Nat.le_succ _
    · rw [shadeC_no e]
      exact Nat.le_succ _
  cases h
  case last v hv => exact hsh v
  case more v hv => exact hsh v
  case pop r x hw =>
    show r.length ≤ _
    rw [hw, List.length_append]
    omega
  all_goals exact Nat.le_succ _

theorem shadeC_work4 (g : Hp) (c : Col) (v : Int) (h : c.work.length ≤ 100) : (shadeC g c v).work.length ≤ 100 := by
  by_cases e : atK g c v = 1
  · rw [shadeC_yes e]
    split
    · show (c.work ++ [v]).length ≤ _
      rw [List.length_append, List.length_singleton]
      omega
    · exact h
  · rw [shadeC_no e]; exact h

theorem TStep.work100 {g k : Hp} {c d : Col} (h : TStep g c k d) (h1 : c.work.length ≤ 100) : d.work.length ≤ 100 := by
  cases h
  case last v hv => exact shadeC_work4 g c v h1
  case more v hv => exact shadeC_work4 g c v h1
  case pop r x hw =>
    rw [hw, List.length_append] at h1
    show r.length ≤ _
    omega
  all_goals exact h1

/-! Known. -/
def knownB (g : Hp) (c : Col) : Bool := (greyH g c).all fun u => c.over || (u == c.at_ || ((c.seek != 0 && decide (u > c.seek)) || c.work.contains u))

theorem known_iff {g : Hp} {c : Col} : knownB g c = true ↔ ∀ u, atK g c u = 2 → c.over = true ∨ u = c.at_ ∨ (c.seek ≠ 0 ∧ c.seek < u) ∨ u ∈ c.work := by
  unfold knownB
  rw [List.all_eq_true]
  constructor
  · intro h u hu
    have := h u (mem_grey.2 hu)
    simp only [Bool.or_eq_true, Bool.and_eq_true, beq_iff_eq, bne_iff_ne, decide_eq_true_eq, List.contains_iff_mem] at this
    exact this
  · intro h u hu
    simp only [Bool.or_eq_true, Bool.and_eq_true, beq_iff_eq, bne_iff_ne, decide_eq_true_eq, List.contains_iff_mem]
    exact h u (mem_grey.1 hu)

theorem grey_adr {g : Hp} {c : Col} {u : Int} (h : atK g c u = 2) : headE g u = 0 ∧ u ∈ cellStarts g.pages ∧ 16 ≤ u := by
  have h0 : headE g u = 0 := atK_ne (c := c) (by omega)
  obtain ⟨_, hr, _⟩ := headE_of h0
  exact ⟨h0, mem_starts.2 hr, (room_adr (h := g) hr).1⟩

theorem nextS_cases (l : List Page) (a : Int) : (nextS l a = 0 ∧ ∀ u ∈ cellStarts l, u ≤ a) ∨ (a < nextS l a ∧ nextS l a ∈ cellStarts l ∧ ∀ u ∈ cellStarts l, a < u → nextS l a ≤ u) := by
  unfold nextS
  have hs := starts_sorted l
  generalize cellStarts l = L at *
  induction L with
  | nil => exact .inl ⟨rfl, fun u h => by cases h⟩
  | cons x r ih =>
    rw [List.pairwise_cons] at hs
    rw [List.find?_cons]
    by_cases hx : a < x
    · rw [decide_eq_true hx]
      refine .inr ⟨hx, List.mem_cons_self .., fun u hu _ => ?_⟩
      rcases List.mem_cons.1 hu with e | hu
      · rw [e]; exact Int.le_refl _
      · exact Int.le_of_lt (hs.1 u hu)
    · rw [decide_eq_false hx]
      rcases ih hs.2 with ⟨h1, h2⟩ | ⟨h1, h2, h3⟩
      · refine .inl ⟨h1, fun u hu => ?_⟩
        rcases List.mem_cons.1 hu with e | hu
        · omega
        · exact h2 u hu
      · refine .inr ⟨h1, List.mem_cons_of_mem _ h2, fun u hu ha => ?_⟩
        rcases List.mem_cons.1 hu with e | hu
        · omega
        · exact h3 u hu ha

theorem greyN_pos {g : Hp} {c : Col} {a : Int} : greyN g c a ≠ 0 ↔ atK g c a = 2 := by
  unfold greyN
  constructor
  · intro h
    by_cases e : atK g c a = 2
    · exact e
    · rw [if_neg e] at h; exact absurd rfl h
  · intro h
    rw [if_pos h]
    have := (head_fits (grey_adr h).1).2.1
    omega

/-- What was known of all that was grey. -/
theorem known_shade {g : Hp} {c : Col} {v : Int} (h : ∀ u, atK g c u = 2 → c.over = true ∨ u = c.at_ ∨ (c.seek ≠ 0 ∧ c.seek < u) ∨ u ∈ c.work) :
    ∀ u, atK (shadeG g c v) c u = 2 → (shadeC g c v).over = true ∨ u = c.at_ ∨ (c.seek ≠ 0 ∧ c.seek < u) ∨ u ∈ (shadeC g c v).work := by
  intro u hu
  rw [atK_shade] at hu
  by_cases hv : atK g c v = 1
  · rw [shadeC_yes hv]
    by_cases h4 : c.work.length < 4
    · rw [if_pos h4]
      show c.over = true ∨ _ ∨ _ ∨ u ∈ c.work ++ [v]
      rw [List.mem_append, List.mem_singleton]
      by_cases e : u = v
      · exact .inr (.inr (.inr (.inr e)))
      · rw [if_neg (fun k => e k.1)] at hu
        rcases h u hu with k | k | k | k
        · exact .inl k
        · exact .inr (.inl k)
        · exact .inr (.inr (.inl k))
        · exact .inr (.inr (.inr (.inl k)))
    · rw [if_neg h4]
      exact .inl rfl
  · rw [if_neg (fun k => hv k.2)] at hu
    rw [shadeC_no hv]
    exact h u hu

theorem TStep.known {g k : Hp} {c d : Col} (h : TStep g c k d) (hk : knownB g c = true) (hf : atK g c c.at_ = 2 → 0 ≤ c.field_ ∧ c.field_ < (headH g c.at_).n) : knownB k d = true := by
  have hat := h.at
  rw [known_iff] at hk ⊢
  cases h
  case idle h => exact hk
  case lost hm hp ha h =>
    intro u hu
    rcases hk u hu with k | k | k | k
    · exact .inl k
    · exfalso
      subst k
      have h1 : atK g c c.at_ = 2 := hu
      have h2 := hf h1
      have h3 : greyN g c c.at_ = (headH g c.at_).n := if_pos h1
      omega
    · exact .inr (.inr (.inl k))
    · exact .inr (.inr (.inr k))
  case last hm hp ha h0 h v hv =>
    intro u hu
    rw [hat, atK_black] at hu
    by_cases e : u = c.at_ ∧ atK (shadeG g c v) c c.at_ = 2
    · rw [if_pos e] at hu; exact absurd hu (by decide)
    · rw [if_neg e] at hu
      rcases known_shade hk u hu with k | k | k | k
      · exact .inl k
      · exact absurd ⟨k, k ▸ hu⟩ e
      · exact .inr (.inr (.inl ⟨by rw [(shadeC_same g c v).seek]; exact k.1, by show (shadeC g c v).seek < u; rw [(shadeC_same g c v).seek]; exact k.2⟩))
      · exact .inr (.inr (.inr k))
  case more hm hp ha h0 h v hv =>
    intro u hu
    rw [hat] at hu
    rcases known_shade hk u hu with k | k | k | k
    · exact .inl k
    · exact .inr (.inl (by show u = (shadeC g c v).at_; rw [(shadeC_same g c v).at_]; exact k))
    · exact .inr (.inr (.inl ⟨by rw [(shadeC_same g c v).seek]; exact k.1, by show (shadeC g c v).seek < u; rw [(shadeC_same g c v).seek]; exact k.2⟩))
    · exact .inr (.inr (.inr k))
  case pop hm hp ha r x hw =>
    intro u hu
    rcases hk u hu with k | k | k | k
    · exact .inl k
    · have := (grey_adr (c := c) hu).2.2
      omega
    · exact .inr (.inr (.inl k))
    · rw [hw, List.mem_append, List.mem_singleton] at k
      rcases k with k | k
      · exact .inr (.inr (.inr k))
      · exact .inr (.inl k)
  case pass hm hp ha hw hs hg =>
    intro u hu
    have hgr := grey_adr (c := c) hu
    rcases hk u hu with k | k | k | k
    · exact .inl k
    · omega
    · rcases nextS_cases g.pages c.seek with ⟨h1, h2⟩ | ⟨h1, h2, h3⟩
      · have := h2 u hgr.2.1
        omega
      · have h4 := h3 u hgr.2.1 k.2
        have h5 : u ≠ nextS g.pages c.seek := by
          intro e
          have := greyN_pos.2 (show atK g c u = 2 from hu)
          rw [e] at this
          exact this hg
        have h6 := (room_adr (h := g) (mem_starts.1 h2)).1
        refine .inr (.inr (.inl ⟨?_, ?_⟩))
        · show nextS g.pages c.seek ≠ 0; omega
        · show nextS g.pages c.seek < u; omega
    · rw [hw] at k; cases k
  case find hm hp ha hw hs hg =>
    intro u hu
    have hgr := grey_adr (c := c) hu
    rcases hk u hu with k | k | k | k
    · exact .inl k
    · omega
    · rcases nextS_cases g.pages c.seek with ⟨h1, h2⟩ | ⟨h1, h2, h3⟩
      · have := h2 u hgr.2.1
        omega
      · have h4 := h3 u hgr.2.1 k.2
        have h6 := (room_adr (h := g) (mem_starts.1 h2)).1
        by_cases e : u = nextS g.pages c.seek
        · exact .inr (.inl e)
        · refine .inr (.inr (.inl ⟨?_, ?_⟩))
          · show nextS g.pages c.seek ≠ 0; omega
          · show nextS g.pages c.seek < u; omega
    · rw [hw] at k; cases k
  case again hm hp ha hw hs ho =>
    intro u hu
    have hgr := grey_adr (c := c) hu
    exact .inr (.inr (.inl ⟨by show (1 : Int) ≠ 0; decide, by show (1 : Int) < u; omega⟩))
  case fin hm hp ha hw hs ho =>
    intro u hu
    have hu : atK g c u = 2 := by rw [← hat]; exact hu
    have hgr := grey_adr hu
    rcases hk u hu with k | k | k | k
    · rw [ho] at k; cases k
    · omega
    · exact absurd hs k.1
    · rw [hw] at k; cases k

/-- Nothing is grey when there is nothing more to go through. -/
theorem known_none {g : Hp} {c : Col} (hk : knownB g c = true) (ha : c.at_ = 0) (hw : c.work = []) (hs : c.seek = 0) (ho : c.over = false) : greyH g c = [] := by
  rw [known_iff] at hk
  apply List.eq_nil_iff_forall_not_mem.2
  intro u hu
  have hu := mem_grey.1 hu
  have hgr := grey_adr hu
  rcases hk u hu with k | k | k | k
  · rw [ho] at k; cases k
  · omega
  · exact absurd hs k.1
  · rw [hw] at k; cases k
end Go.Abs

namespace Go.Abs

/-! Cells lie apart. -/
def hasA' (l : List Page) (a s : Int) : Bool := decide (s ≤ a ∧ a < s + roomAt l s)

theorem one_cell {l : List Page} (hmp : mayP l = true) {a : Int} (h1 : 16 ≤ a) (h2 : a < 16 * ((l.length : Int) + 1)) : ((cellStarts l).filter (hasA' l a)).length ≤ 1 := by
  have ht := tile l 0 0 (by unfold mayP at hmp; rw [Bool.and_eq_true] at hmp; exact hmp.1) (Int.le_refl _) (fun p hp => by
    obtain ⟨i, hi, e⟩ := List.mem_iff_getElem.1 hp
    have := (mayP_ok hmp).1 i hi
    rw [List.getD_eq_getElem?_getD, List.getElem?_eq_getElem hi] at this
    rw [← e]; exact this) a (by omega) (by omega)
  have e0 : cellsAll l = cellsRec 0 l := by
    unfold cellsAll
    rw [if_pos hmp, cellsRec_from l _ 0 rfl]
    rfl
  have e1 : cnt (cellsAll l) a = ((cellStarts l).filter (hasA' l a)).length := by
    unfold cnt cellStarts
    rw [List.filter_map, List.length_map]
    congr 1
    refine List.filter_congr fun x hx => ?_
    show inCell a x = hasA' l a x.1
    unfold inCell hasA'
    rw [roomAt_mem hx]
  rw [← e1, e0]
  omega

theorem two_of {l : List Int} (hn : l.Nodup) {x y : Int} (hx : x ∈ l) (hy : y ∈ l) (hne : x ≠ y) : 2 ≤ l.length := by
  cases l with
  | nil => cases hx
  | cons a r =>
    cases r with
    | nil =>
      rw [List.mem_singleton] at hx hy
      exact absurd (hx.trans hy.symm) hne
    | cons b s => simp

theorem pgo_len : ∀ (l : List Page) (r : Int), pgo r l = true → (∀ p ∈ l, pageOk p) → r ≤ (l.length : Int)
  | [], r, h, _ => by
    unfold pgo at h
    have := of_decide_eq_true h
    simp
    omega
  | p :: l, r, h, hp => by
    unfold pgo at h
    have hl : ((p :: l).length : Int) = (l.length : Int) + 1 := by simp
    by_cases h3 : p.kind = 3
    · rw [decide_eq_true h3] at h
      simp only [cond_true, Bool.and_eq_true] at h
      have := pgo_len l (r - 1) h.2 fun q hq => hp q (List.mem_cons_of_mem _ hq)
      omega
    · rw [decide_eq_false h3] at h
      simp only [cond_false, Bool.and_eq_true, Bool.not_eq_true', decide_eq_false_iff_not] at h
      omega

theorem pgo_big : ∀ (l : List Page) (r : Int) (i : Nat), pgo r l = true → (∀ p ∈ l, pageOk p) → i < l.length → (l.getD i default).kind = 2 → (i : Int) + (l.getD i default).arg ≤ (l.length : Int)
  | [], r, i, _, _, hi, _ => by simp at hi
  | p :: l, r, i, h, hp, hi, hk => by
    unfold pgo at h
    have hl : ((p :: l).length : Int) = (l.length : Int) + 1 := by simp
    have hp' : ∀ q ∈ l, pageOk q := fun q hq => hp q (List.mem_cons_of_mem _ hq)
    have rec_ : ∀ r', pgo r' l = true → ∀ j, i = j + 1 → (i : Int) + ((p :: l).getD i default).arg ≤ ((p :: l).length : Int) := by
      intro r' h' j hj
      subst hj
      have := pgo_big l r' j h' hp' (by simpa using hi) hk
      have e : ((p :: l).getD (j + 1) default) = l.getD j default := rfl
      rw [e]
      omega
    by_cases h3 : p.kind = 3
    · rw [decide_eq_true h3] at h
      simp only [cond_true, Bool.and_eq_true] at h
      cases i with
      | zero => exfalso; have hk : p.kind = 2 := hk; omega
      | succ j => exact rec_ _ h.2 j rfl
    · rw [decide_eq_false h3] at h
      simp only [cond_false, Bool.and_eq_true] at h
      cases i with
      | zero =>
        have hk : p.kind = 2 := hk
        have h2 := h.2
        rw [if_pos hk] at h2
        have := pgo_len l _ h2 hp'
        show ((0 : Nat) : Int) + p.arg ≤ _
        omega
      | succ j => exact rec_ _ h.2 j rfl

theorem pages_ok {l : List Page} (hmp : mayP l = true) : ∀ p ∈ l, pageOk p := by
  intro p hp
  obtain ⟨i, hi, e⟩ := List.mem_iff_getElem.1 hp
  have := (mayP_ok hmp).1 i hi
  rw [List.getD_eq_getElem?_getD, List.getElem?_eq_getElem hi] at this
  rw [← e]; exact this

theorem room_end {l : List Page} {a : Int} (h : roomAt l a ≠ 0) : a + roomAt l a ≤ 16 * ((l.length : Int) + 1) := by
  obtain ⟨hmp, i, hi⟩ := cellOf_mem (roomAt_pos h)
  have hlt := hi.lt
  have hk := hi.kind
  simp only at hk
  rcases hk with ⟨_, _, _, k4, _⟩ | ⟨k1, k2, k3, k4, k5⟩
  · omega
  · have := pgo_big l 0 i (by unfold mayP at hmp; rw [Bool.and_eq_true] at hmp; exact hmp.1) (pages_ok hmp) hlt k1
    omega

/-- No cell begins within another one. -/
theorem inside {l : List Page} {u a : Int} (hr : roomAt l u ≠ 0) (h1 : u < a) (h2 : a < u + roomAt l u) : roomAt l a = 0 := by
  by_cases h : roomAt l a = 0
  · exact h
  · exfalso
    obtain ⟨hmp, i, hi⟩ := cellOf_mem (roomAt_pos hr)
    have hlo := hi.lo
    simp only at hlo
    have hend := room_end hr
    have hone := one_cell hmp (a := a) (by omega) (by omega)
    have hpos := roomAt_nonneg l a
    have hn : ((cellStarts l).filter (hasA' l a)).Nodup := ((starts_sorted l).imp (fun h => by omega) : (cellStarts l).Nodup).sublist List.filter_sublist
    have := two_of hn (x := u) (y := a) (List.mem_filter.2 ⟨mem_starts.2 hr, decide_eq_true ⟨by omega, h2⟩⟩) (List.mem_filter.2 ⟨mem_starts.2 h, decide_eq_true ⟨by omega, by omega⟩⟩) (by omega)
    omega

/-! Fields. -/
theorem field_adr {g : Hp} {u f : Int} (h0 : headE g u = 0) (h1 : 1 ≤ f) (h2 : f ≤ (headH g u).n) : adr g (u + f) ∧ u + f ∉ usedH g := by
  obtain ⟨_, hn1, hn2, had⟩ := head_fits h0
  obtain ⟨_, hr, _⟩ := headE_of h0
  have he := room_end hr
  have had1 := had.1
  refine ⟨⟨by omega, by omega⟩, fun hin => ?_⟩
  have := (headE_of (mem_usedH.1 hin)).2.1
  exact this (inside hr (by omega) (by omega))

theorem wordOf_field {g : Hp} {u f : Int} (h0 : headE g u = 0) (h1 : 1 ≤ f) (h2 : f ≤ (headH g u).n) : wordOf g (u + f) = wordAt g (u + f) := by
  have had := (field_adr h0 h1 h2).1
  obtain ⟨hw, _, hs, _⟩ := shapedH_of (mayH_shaped (headE_of h0).1)
  unfold wordOf
  have ha1 := had.1; have ha2 := had.2
  rw [if_pos ⟨hw, by omega, by omega⟩]

/-- Fields stay where only marks change. -/
theorem Marks.field {g k : Hp} (h : Marks g k) {u f : Int} (h0 : Abs.headE g u = 0) (h1 : 1 ≤ f) (h2 : f ≤ (headH g u).n) : wordAt k (u + f) = wordAt g (u + f) := by
  obtain ⟨had, hnot⟩ := field_adr h0 h1 h2
  have ha1 := had.1
  unfold wordAt at0
  by_cases e : k.w.getD (u + f - 16).toNat 0 = g.w.getD (u + f - 16).toNat 0
  · exact e
  · exfalso
    have := h.word _ e
    rw [show 16 + ((u + f - 16).toNat : Int) = u + f by omega] at this
    exact hnot this

/-! What black objects lead to. -/
def ledQ (P : Int → Prop) (g : Hp) (c : Col) : Prop := ∀ u, P u → atK g c u = 3 → ∀ f : Int, 1 ≤ f → f ≤ (headH g u).n → atK g c (wordAt g (u + f)) ≠ 1
/-- Where the step is: what was gone through leads to nothing white. -/
structure TAt (g : Hp) (c : Col) : Prop where
  f0 : c.at_ ≠ 0 → 0 ≤ c.field_
  fn : atK g c c.at_ = 2 → c.at_ ≠ 0 → c.field_ < (headH g c.at_).n
  led : atK g c c.at_ = 2 → c.at_ ≠ 0 → ∀ f : Int, 1 ≤ f → f ≤ c.field_ → atK g c (wordAt g (c.at_ + f)) ≠ 1

theorem Rises.nonwhite {c : Col} {g k : Hp} (h : Rises c g k) {u : Int} (hu : atK g c u ≠ 1) : atK k c u ≠ 1 := by
  intro e
  have h1 := h.le u
  have h2 := (atK_nonneg g c u).1
  have h3 : atK g c u = 0 := by omega
  have := h.out u h3
  omega

theorem marks_n {g k : Hp} (h : Marks g k) (u : Int) : (headH k u).n = (headH g u).n := (h.head u).2.2.1

/-- The generic part: of what was black all stays so. -/
theorem led_keep {g k : Hp} {c : Col} (hM : Marks g k) (hR : Rises c g k) {u : Int} (h0 : headE g u = 0) {m : Int} (hm : m ≤ (headH g u).n) (h : ∀ f : Int, 1 ≤ f → f ≤ m → atK g c (wordAt g (u + f)) ≠ 1) :
    ∀ f : Int, 1 ≤ f → f ≤ m → atK k c (wordAt k (u + f)) ≠ 1 := by
  intro f h1 h2
  rw [hM.field h0 h1 (by omega)]
  exact hR.nonwhite (h f h1 h2)

theorem TStep.led {P : Int → Prop} {g k : Hp} {c d : Col} (h : TStep g c k d) (hl : ledQ P g c) (ht : TAt g c) : ledQ P k d ∧ TAt k d := by
  have hM := h.marks
  have hR := h.rises
  have hat := h.at
  have hn := marks_n hM
  -- fields of black ones, and of the one that is gone through
  have hblack : ∀ u, P u → atK g c u = 3 → ∀ f : Int, 1 ≤ f → f ≤ (headH k u).n → atK k c (wordAt k (u + f)) ≠ 1 := fun u hP hu f h1 h2 => by
    rw [hn] at h2
    have h0 : headE g u = 0 := atK_ne (c := c) (by omega)
    exact led_keep hM hR h0 (Int.le_refl _) (hl u hP hu) f h1 h2
  have same : k = g → d.at_ = c.at_ → d.field_ = c.field_ → ledQ P k d ∧ TAt k d := by
    intro e1 e2 e3
    subst e1
    refine ⟨fun u hP hu => ?_, ⟨by rw [e2, e3]; exact ht.f0, by rw [hat, e2, e3]; exact ht.fn, ?_⟩⟩
    · rw [hat] at hu
      intro f h1 h2
      rw [hat]
      exact hl u hP hu f h1 h2
    · rw [hat, e2, e3]
      intro h1 h2 f h3 h4
      rw [hat]
      exact ht.led h1 h2 f h3 h4
  have fresh : k = g → d.at_ = 0 ∨ d.field_ = 0 → ledQ P k d ∧ TAt k d := by
    intro e1 e2
    subst e1
    refine ⟨fun u hP hu f h1 h2 => ?_, ⟨fun h => ?_, fun h1 h2 => ?_, fun h1 h2 f h3 h4 => ?_⟩⟩
    · rw [hat] at hu ⊢
      exact hl u hP hu f h1 h2
    · rcases e2 with e2 | e2
      · exact absurd e2 h
      · omega
    · rcases e2 with e2 | e2
      · exact absurd e2 h2
      · rw [hat] at h1
        have := (head_fits (grey_adr h1).1).2.1
        omega
    · rcases e2 with e2 | e2
      · exact absurd e2 h2
      · omega
  cases h
  case idle h => exact same rfl rfl rfl
  case lost hm hp ha h => exact fresh rfl (.inl rfl)
  case pop r x hw => exact fresh rfl (.inr rfl)
  case pass => exact same rfl rfl rfl
  case find => exact fresh rfl (.inr rfl)
  case again => exact same rfl rfl rfl
  case fin => exact fresh rfl (.inl rfl)
  case last hm hp ha h0 h v hv =>
    have hg : atK g c c.at_ = 2 := greyN_pos.1 (by omega)
    have hh := (grey_adr hg).1
    have hN : greyN g c c.at_ = (headH g c.at_).n := if_pos hg
    refine ⟨fun u hP hu f h1 h2 => ?_, ⟨fun h => absurd rfl h, fun _ h => absurd rfl h, fun _ h => absurd rfl h⟩⟩
    rw [hat] at hu ⊢
    by_cases hu3 : atK g c u = 3
    · exact hblack u hP hu3 f h1 h2
    · -- it has become black now
      have hua : u = c.at_ := by
        rw [atK_black] at hu
        by_cases e : u = c.at_ ∧ atK (shadeG g c v) c c.at_ = 2
        · exact e.1
        · rw [if_neg e, atK_shade] at hu
          by_cases e' : u = v ∧ atK g c v = 1
          · rw [if_pos e'] at hu; exact absurd hu (by decide)
          · rw [if_neg e'] at hu; exact absurd hu hu3
      subst hua
      rw [hn] at h2
      by_cases hf : f = c.field_ + 1
      · rw [hM.field hh h1 h2]
        subst hf
        have hvw : v = wordAt g (c.at_ + (c.field_ + 1)) := by
          rw [hv, show c.at_ + 1 + c.field_ = c.at_ + (c.field_ + 1) by omega]
          exact wordOf_field hh h1 h2
        rw [← hvw]
        exact (black_rises (shadeG g c v) c c.at_).nonwhite (by
          rw [atK_shade]
          by_cases e : atK g c v = 1
          · rw [if_pos ⟨rfl, e⟩]; decide
          · rw [if_neg (fun k => e k.2)]; exact e)
      · exact led_keep hM hR hh (m := c.field_) (by omega) (ht.led hg ha) f h1 (by omega)
  case more hm hp ha h0 h v hv =>
    have hg : atK g c c.at_ = 2 := greyN_pos.1 (by omega)
    have hh := (grey_adr hg).1
    have hN : greyN g c c.at_ = (headH g c.at_).n := if_pos hg
    have ea : ({ shadeC g c v with field_ := c.field_ + 1 } : Col).at_ = c.at_ := (shadeC_same g c v).at_
    refine ⟨fun u hP hu f h1 h2 => ?_, ⟨fun _ => ?_, fun _ _ => ?_, fun _ _ f h1 h2 => ?_⟩⟩
    · rw [hat] at hu ⊢
      have hu3 : atK g c u = 3 := by
        rw [atK_shade] at hu
        by_cases e' : u = v ∧ atK g c v = 1
        · rw [if_pos e'] at hu; exact absurd hu (by decide)
        · rw [if_neg e'] at hu; exact hu
      exact hblack u hP hu3 f h1 h2
    · show 0 ≤ c.field_ + 1
      omega
    · rw [ea, hn]
      show c.field_ + 1 < _
      omega
    · rw [hat, ea]
      have h2 : f ≤ c.field_ + 1 := h2
      by_cases hf : f = c.field_ + 1
      · rw [hM.field hh h1 (by omega)]
        subst hf
        have hvw : v = wordAt g (c.at_ + (c.field_ + 1)) := by
          rw [hv, show c.at_ + 1 + c.field_ = c.at_ + (c.field_ + 1) by omega]
          exact wordOf_field hh h1 (by omega)
        rw [← hvw, atK_shade]
        by_cases e : atK g c v = 1
        · rw [if_pos ⟨rfl, e⟩]; decide
        · rw [if_neg (fun k => e k.2)]; exact e
      · exact led_keep hM hR hh (m := c.field_) (by omega) (ht.led hg ha) f h1 (by omega)
end Go.Abs
