/- Plain laws of the library's sort: parting, and what is sorted between two bounds. -/
import Derived.Test.YtlknhkocpjjkdaaWHeapLaw
set_option linter.all false
set_option linter.unusedVariables false
set_option linter.unusedSimpArgs false
namespace Go.Abs

/-- What stands ahead of the range is no more than what is in it. -/
def Lws (l : List Int) (a b : Nat) : Prop := 0 < a → ∀ i, a ≤ i → i < b → at0 l (a - 1) ≤ at0 l i

theorem Lws.srt {l m : List Int} {a b : Nat} (h : Lws l a b) (hs : Srt l m a b) (hab : a ≤ b) (hb : b ≤ l.length) : Lws m a b := fun h0 i h1 h2 => by
  obtain ⟨j, j1, j2, j3⟩ := hs.was hab hb h1 h2
  rw [hs.at_out (.inl (by omega)), ← j3]
  exact h h0 j j1 j2

theorem Sorted.snoc {m : List Int} {a i : Nat} (h : Sorted m a i) (hx : at0 m (i - 1) ≤ at0 m i) : Sorted m a (i + 1) := fun p q h1 h2 h3 => by
  by_cases hq : q = i
  · subst hq
    by_cases hp : p = q - 1
    · subst hp; exact hx
    · exact Int.le_trans (h p (q - 1) h1 (by omega) (by omega)) hx
  · exact h p q h1 h2 (by omega)

theorem Sorted.one (m : List Int) (a : Nat) : Sorted m a (a + 1) := fun p q h1 h2 h3 => by omega

theorem Sorted.off {m m' : List Int} {a i c d : Nat} (h : Sorted m a i) (hs : Srt m m' c d) (hi : i ≤ c) : Sorted m' a i := fun p q h1 h2 h3 => by
  rw [hs.at_out (.inl (by omega)), hs.at_out (.inl (by omega))]
  exact h p q h1 h2 h3

theorem Sorted.less {m : List Int} {a i j : Nat} (h : Sorted m a i) (hi : j ≤ i) : Sorted m a j := fun p q h1 h2 h3 => h p q h1 h2 (by omega)

/-- Where the parting stands: the pivot p at a; up to i no more, behind j no less. -/
structure Pt (l m : List Int) (a b : Nat) (p : Int) (i j : Nat) : Prop where
  srt : Srt l m a b
  ai : a < i
  ij : i ≤ j + 1
  jb : j < b
  piv : at0 m a = p
  lo : ∀ k, a < k → k < i → at0 m k ≤ p
  hi : ∀ k, j < k → k < b → p ≤ at0 m k

theorem Pt.start {l : List Int} {a b q : Nat} (h1 : a ≤ q) (h2 : q < b) (hb : b ≤ l.length) : Pt l (swp l a q) a b (at0 l q) (a + 1) (b - 1) := by
  have hat := swp_at l a q a (by omega) (by omega)
  refine ⟨swp_srt l a q a b (by omega) h1 (by omega) h2 hb, by omega, by omega, by omega, ?_, fun k h3 h4 => by omega, fun k h3 h4 => by omega⟩
  rw [hat]
  by_cases h : a = q
  · subst h; simp
  · rw [if_neg h, if_pos rfl]

theorem Pt.up {l m : List Int} {a b i j : Nat} {p : Int} (h : Pt l m a b p i j) (hij : i ≤ j) (hx : at0 m i ≤ p) : Pt l m a b p (i + 1) j :=
  ⟨h.srt, by have := h.ai; omega, by omega, h.jb, h.piv, fun k h1 h2 => by
    by_cases hk : k = i
    · subst hk; exact hx
    · exact h.lo k h1 (by omega), h.hi⟩

theorem Pt.down {l m : List Int} {a b i j : Nat} {p : Int} (h : Pt l m a b p i j) (hij : i ≤ j) (hx : p ≤ at0 m j) : Pt l m a b p i (j - 1) :=
  ⟨h.srt, h.ai, by have := h.ai; omega, by have := h.jb; omega, h.piv, h.lo, fun k h1 h2 => by
    by_cases hk : k = j
    · subst hk; exact hx
    · exact h.hi k (by omega) h2⟩

theorem Pt.swap {l m : List Int} {a b i j : Nat} {p : Int} (h : Pt l m a b p i j) (hb : b ≤ l.length) (hij : i < j) (hi : p ≤ at0 m i) (hj : at0 m j ≤ p) : Pt l (swp m i j) a b p (i + 1) (j - 1) := by
  have hml := h.srt.len
  have hai := h.ai
  have hjb := h.jb
  have hat := fun k => swp_at m i j k (by omega) (by omega)
  refine ⟨h.srt.trans (swp_srt m i j a b (by omega) (by omega) (by omega) (by omega) (by omega)), by omega, by omega, by omega, ?_, fun k h1 h2 => ?_, fun k h1 h2 => ?_⟩
  · rw [hat, if_neg (by omega), if_neg (by omega)]; exact h.piv
  · rw [hat, if_neg (by omega)]
    by_cases hk : k = i
    · rw [if_pos hk]; exact hj
    · rw [if_neg hk]; exact h.lo k h1 (by omega)
  · rw [hat]
    by_cases hk : k = j
    · rw [if_pos hk]; exact hi
    · rw [if_neg hk, if_neg (by omega)]; exact h.hi k (by omega) h2

/-- What the parting of those that equal the pivot leaves. -/
def EqPart (l l' : List Int) (a b : Nat) (p : Int) (mid : Nat) : Prop := Srt l l' a b ∧ a < mid ∧ mid ≤ b ∧ ∀ k, a ≤ k → k < mid → at0 l' k ≤ p

theorem Pt.eq {l m : List Int} {a b i j : Nat} {p : Int} (h : Pt l m a b p i j) (hij : j < i) : EqPart l m a b p i := by
  refine ⟨h.srt, h.ai, ?_, fun k h1 h2 => ?_⟩
  · have := h.jb; have := h.ij; omega
  · by_cases hk : k = a
    · subst hk; exact Int.le_of_eq h.piv
    · exact h.lo k (by omega) h2

/-- What the parting leaves. -/
def Part2 (l l' : List Int) (a b : Nat) (mid : Nat) : Prop := Srt l l' a b ∧ a ≤ mid ∧ mid < b ∧ (∀ k, a ≤ k → k < mid → at0 l' k ≤ at0 l' mid) ∧ ∀ k, mid < k → k < b → at0 l' mid ≤ at0 l' k

theorem Pt.part {l m : List Int} {a b i j : Nat} {p : Int} (h : Pt l m a b p i j) (hb : b ≤ l.length) (hij : j < i) : Part2 l (swp m j a) a b j := by
  have hml := h.srt.len
  have hai := h.ai
  have hjb := h.jb
  have hji := h.ij
  have e : i = j + 1 := by omega
  subst e
  have hat := fun k => swp_at m j a k (by omega) (by omega)
  have hj : at0 (swp m j a) j = p := by
    rw [hat]
    by_cases hk : j = a
    · subst hk; rw [if_pos rfl]; exact h.piv
    · rw [if_neg hk, if_pos rfl]; exact h.piv
  refine ⟨h.srt.trans (swp_srt m j a a b (by omega) (by omega) (by omega) (by omega) (by omega)), by omega, by omega, fun k h1 h2 => ?_, fun k h1 h2 => ?_⟩
  · rw [hj, hat]
    by_cases hk : k = a
    · rw [if_pos hk]; exact h.lo j (by omega) (by omega)
    · rw [if_neg hk, if_neg (by omega)]; exact h.lo k (by omega) (by omega)
  · rw [hj, hat, if_neg (by omega), if_neg (by omega)]
    exact h.hi k h1 h2

/-- Where the sort stands: sorted but for what lies in [c, d). -/
structure PQ (l m : List Int) (a b c d : Nat) : Prop where
  srt : Srt l m a b
  ac : a ≤ c
  cd : c ≤ d
  db : d ≤ b
  out : ∀ i j, a ≤ i → i < j → j < b → (i < c ∨ d ≤ j) → at0 m i ≤ at0 m j

theorem PQ.start (l : List Int) {a b : Nat} (h : a ≤ b) : PQ l l a b a b := ⟨.refl _ _ _, Nat.le_refl _, h, Nat.le_refl _, fun i j h1 h2 h3 h4 => by omega⟩

theorem PQ.mix {l m m' : List Int} {a b c d : Nat} (h : PQ l m a b c d) (hb : b ≤ l.length) (hs : Srt m m' c d) : PQ l m' a b c d := by
  have hml := h.srt.len
  have := h.ac
  have := h.cd
  have := h.db
  refine ⟨h.srt.trans (hs.widen h.ac h.db), h.ac, h.cd, h.db, fun i j h1 h2 h3 h4 => ?_⟩
  by_cases hi : c ≤ i ∧ i < d
  · obtain ⟨i', i1, i2, i3⟩ := hs.was h.cd (by omega) hi.1 hi.2
    rw [← i3, hs.at_out (.inr (by omega))]
    exact h.out i' j (by omega) (by omega) h3 (.inr (by omega))
  · rw [hs.at_out (i := i) (by omega)]
    by_cases hj : c ≤ j ∧ j < d
    · obtain ⟨j', j1, j2, j3⟩ := hs.was h.cd (by omega) hj.1 hj.2
      rw [← j3]
      exact h.out i j' h1 (by omega) (by omega) (.inl (by omega))
    · rw [hs.at_out (i := j) (by omega)]
      exact h.out i j h1 h2 h3 h4

theorem PQ.done {l m : List Int} {a b c d : Nat} (h : PQ l m a b c d) (hs : Sorted m c d) : Sorted m a b := fun i j h1 h2 h3 => by
  by_cases hij : i < c ∨ d ≤ j
  · exact h.out i j h1 h2 h3 hij
  · exact hs i j (by omega) h2 (by omega)

theorem PQ.low {l m : List Int} {a b c d : Nat} (h : PQ l m a b c d) (hl : Lws l a b) (hb : b ≤ l.length) : Lws m c d := fun h0 i h1 h2 => by
  have := h.ac
  have := h.cd
  have := h.db
  by_cases hac : a = c
  · subst hac
    exact hl.srt h.srt (by omega) hb h0 i h1 (by omega)
  · exact h.out (c - 1) i (by omega) (by omega) (by omega) (.inl (by omega))

theorem PQ.eq {l m m' : List Int} {a b c d mid : Nat} {p : Int} (h : PQ l m a b c d) (hb : b ≤ l.length) (hp : ∀ i, c ≤ i → i < d → p ≤ at0 m i) (he : EqPart m m' c d p mid) : PQ l m' a b mid d := by
  obtain ⟨hs, e1, e2, e3⟩ := he
  have hml := h.srt.len
  have := h.ac
  have := h.cd
  have := h.db
  have h' := h.mix hb hs
  refine ⟨h'.srt, by omega, e2, h.db, fun i j h1 h2 h3 h4 => ?_⟩
  by_cases hi : i < c ∨ d ≤ j
  · exact h'.out i j h1 h2 h3 hi
  · obtain ⟨j', j1, j2, j3⟩ := hs.was h.cd (by omega) (i := j) (by omega) (by omega)
    have h5 := hp j' j1 j2
    rw [j3] at h5
    exact Int.le_trans (e3 i (by omega) (by omega)) h5

theorem PQ.left {l m m' m'' : List Int} {a b c d mid : Nat} (h : PQ l m a b c d) (hb : b ≤ l.length) (he : Part2 m m' c d mid) (hs2 : Srt m' m'' c mid) (hso : Sorted m'' c mid) : PQ l m'' a b (mid + 1) d := by
  obtain ⟨hs, e1, e2, e3, e4⟩ := he
  have hml := h.srt.len
  have hml2 := hs.len
  have := h.ac
  have := h.cd
  have := h.db
  have h' := (h.mix hb hs).mix hb (hs2.widen (Nat.le_refl _) (by omega))
  refine ⟨h'.srt, by omega, by omega, h.db, fun i j h1 h2 h3 h4 => ?_⟩
  by_cases hi : i < c ∨ d ≤ j
  · exact h'.out i j h1 h2 h3 hi
  · by_cases hj : j < mid
    · exact hso i j (by omega) h2 hj
    · have hx : at0 m'' i ≤ at0 m'' mid := by
        by_cases him : i = mid
        · subst him; exact Int.le_refl _
        · obtain ⟨i', i1, i2, i3⟩ := hs2.was e1 (by omega) (i := i) (by omega) (by omega)
          rw [← i3, hs2.at_out (.inr (Nat.le_refl _))]
          exact e3 i' i1 i2
      by_cases hjm : j = mid
      · subst hjm; exact hx
      · refine Int.le_trans hx ?_
        rw [hs2.at_out (.inr (Nat.le_refl _)), hs2.at_out (i := j) (.inr (by omega))]
        exact e4 j (by omega) (by omega)

theorem PQ.right {l m m' m'' : List Int} {a b c d mid : Nat} (h : PQ l m a b c d) (hb : b ≤ l.length) (he : Part2 m m' c d mid) (hs2 : Srt m' m'' (mid + 1) d) (hso : Sorted m'' (mid + 1) d) : PQ l m'' a b c mid := by
  obtain ⟨hs, e1, e2, e3, e4⟩ := he
  have hml := h.srt.len
  have hml2 := hs.len
  have := h.ac
  have := h.cd
  have := h.db
  have h' := (h.mix hb hs).mix hb (hs2.widen (by omega) (Nat.le_refl _))
  refine ⟨h'.srt, h.ac, e1, by omega, fun i j h1 h2 h3 h4 => ?_⟩
  by_cases hi : i < c ∨ d ≤ j
  · exact h'.out i j h1 h2 h3 hi
  · by_cases hj : mid < i
    · exact hso i j (by omega) h2 (by omega)
    · have hx : at0 m'' mid ≤ at0 m'' j := by
        by_cases hjm : j = mid
        · subst hjm; exact Int.le_refl _
        · obtain ⟨j', j1, j2, j3⟩ := hs2.was (by omega) (by omega) (i := j) (by omega) (by omega)
          rw [← j3, hs2.at_out (.inl (by omega))]
          exact e4 j' (by omega) (by omega)
      by_cases him : i = mid
      · subst him; exact hx
      · refine Int.le_trans ?_ hx
        rw [hs2.at_out (i := mid) (.inl (by omega)), hs2.at_out (i := i) (.inl (by omega))]
        exact e3 i (by omega) (by omega)

theorem Part2.low_left {m m' : List Int} {c d mid : Nat} (he : Part2 m m' c d mid) (h : Lws m c d) (hd : d ≤ m.length) (hcd : c ≤ d) : Lws m' c mid := fun h0 i h1 h2 =>
  (h.srt he.1 hcd hd) h0 i h1 (by have := he.2.2.1; omega)

theorem Part2.low_right {m m' : List Int} {c d mid : Nat} (he : Part2 m m' c d mid) : Lws m' (mid + 1) d := fun h0 i h1 h2 => he.2.2.2.2 i (by omega) h2

/-- The pivot is no more than any, where it is no more than what stands ahead of the range. -/
theorem Lws.piv {m : List Int} {c d : Nat} {q : Nat} (h : Lws m c d) (h0 : 0 < c) (hx : at0 m q ≤ at0 m (c - 1)) : ∀ i, c ≤ i → i < d → at0 m q ≤ at0 m i := fun i h1 h2 => Int.le_trans hx (h h0 i h1 h2)
end Go.Abs
