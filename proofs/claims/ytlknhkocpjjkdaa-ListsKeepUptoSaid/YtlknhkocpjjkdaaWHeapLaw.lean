/- Plain laws of the library's sort: heaps; what stays between two bounds. -/
import Derived.Test.YtlknhkocpjjkdaaWSort
set_option linter.all false
set_option linter.unusedVariables false
set_option linter.unusedSimpArgs false
namespace Go.Abs

theorem split3 (l : List Int) (a b : Nat) (h : a ≤ b) : l = l.take a ++ ((l.drop a).take (b - a) ++ l.drop b) := by
  have e : l.drop b = (l.drop a).drop (b - a) := by rw [List.drop_drop]; congr 1; omega
  rw [e, List.take_append_drop, List.take_append_drop]

theorem Srt.seg {l l' : List Int} {a b : Nat} (h : Srt l l' a b) (hab : a ≤ b) : ((l'.drop a).take (b - a)).Perm ((l.drop a).take (b - a)) := by
  have e1 : l'.take a = l.take a := by
    refine List.ext_getElem? fun i => ?_
    rw [List.getElem?_take, List.getElem?_take]
    split
    · exact h.out i (.inl (by assumption))
    · rfl
  have e2 : l'.drop b = l.drop b := by
    refine List.ext_getElem? fun i => ?_
    rw [List.getElem?_drop, List.getElem?_drop]
    exact h.out _ (.inr (by omega))
  have hp := h.perm
  rw [split3 l' a b hab, split3 l a b hab, e1, e2] at hp
  exact (List.perm_append_right_iff _).1 ((List.perm_append_left_iff _).1 hp)

theorem mem_seg {l : List Int} {a b : Nat} (hb : b ≤ l.length) {x : Int} : x ∈ (l.drop a).take (b - a) ↔ ∃ i, a ≤ i ∧ i < b ∧ at0 l i = x := by
  constructor
  · intro h
    obtain ⟨i, hi, he⟩ := List.mem_iff_getElem.1 h
    have hi' : i < b - a := by simp at hi; omega
    refine ⟨a + i, by omega, by omega, ?_⟩
    rw [← he, List.getElem_take, List.getElem_drop, at0, List.getD_eq_getElem?_getD, List.getElem?_eq_getElem (by omega)]
    rfl
  · rintro ⟨i, h1, h2, rfl⟩
    refine List.mem_iff_getElem.2 ⟨i - a, by simp; omega, ?_⟩
    rw [List.getElem_take, List.getElem_drop, at0, List.getD_eq_getElem?_getD, List.getElem?_eq_getElem (by omega)]
    simp only [Option.getD_some]
    congr 1
    omega

/-- What stands between the bounds stood there. -/
theorem Srt.was {l l' : List Int} {a b : Nat} (h : Srt l l' a b) (hab : a ≤ b) (hb : b ≤ l.length) {i : Nat} (h1 : a ≤ i) (h2 : i < b) : ∃ j, a ≤ j ∧ j < b ∧ at0 l j = at0 l' i := by
  have := (h.seg hab).mem_iff.1 ((mem_seg (by rw [h.len]; exact hb)).2 ⟨i, h1, h2, rfl⟩)
  exact (mem_seg hb).1 this

theorem Srt.at_out {l l' : List Int} {a b : Nat} (h : Srt l l' a b) {i : Nat} (hi : i < a ∨ b ≤ i) : at0 l' i = at0 l i := by
  unfold at0
  rw [List.getD_eq_getElem?_getD, List.getD_eq_getElem?_getD, h.out i hi]

theorem Srt.widen {l l' : List Int} {a b a' b' : Nat} (h : Srt l l' a b) (ha : a' ≤ a) (hb : b ≤ b') : Srt l l' a' b' :=
  ⟨h.len, fun i hi => h.out i (by omega), h.perm⟩

/-- From lo on, each is no less than what hangs below it; f: where the heap begins. -/
def HeapAt (m : List Int) (f lo hi : Nat) : Prop := ∀ i j, lo ≤ i → (j = 2 * i + 1 ∨ j = 2 * i + 2) → j < hi → at0 m (f + j) ≤ at0 m (f + i)

structure Sift (l m : List Int) (f lo hi r : Nat) : Prop where
  srt : Srt l m f (f + hi)
  lor : lo ≤ r
  h1 : ∀ i j, lo ≤ i → i ≠ r → (j = 2 * i + 1 ∨ j = 2 * i + 2) → j < hi → at0 m (f + j) ≤ at0 m (f + i)
  h2 : ∀ p j, lo ≤ p → (r = 2 * p + 1 ∨ r = 2 * p + 2) → (j = 2 * r + 1 ∨ j = 2 * r + 2) → j < hi → at0 m (f + j) ≤ at0 m (f + p)

theorem Sift.start {l : List Int} {f lo hi : Nat} (h : HeapAt l f (lo + 1) hi) : Sift l l f lo hi lo :=
  ⟨.refl _ _ _, Nat.le_refl _, fun i j h1 h2 h3 h4 => h i j (by omega) h3 h4, fun p j h1 h2 => by omega⟩

theorem Sift.none {l m : List Int} {f lo hi r : Nat} (h : Sift l m f lo hi r) (hc : hi ≤ 2 * r + 1) : HeapAt m f lo hi := fun i j h1 h2 h3 => by
  by_cases hi : i = r
  · subst hi; omega
  · exact h.h1 i j h1 hi h2 h3

theorem Sift.stop {l m : List Int} {f lo hi r c : Nat} (h : Sift l m f lo hi r) (hc : c = 2 * r + 1 ∨ c = 2 * r + 2) (hbig : ∀ j, (j = 2 * r + 1 ∨ j = 2 * r + 2) → j < hi → at0 m (f + j) ≤ at0 m (f + c)) (hx : at0 m (f + c) ≤ at0 m (f + r)) : HeapAt m f lo hi := fun i j h1 h2 h3 => by
  by_cases hi : i = r
  · subst hi; exact Int.le_trans (hbig j h2 h3) hx
  · exact h.h1 i j h1 hi h2 h3

theorem Sift.step {l m : List Int} {f lo hi r c : Nat} (h : Sift l m f lo hi r) (hl : f + hi ≤ l.length) (hc : c = 2 * r + 1 ∨ c = 2 * r + 2) (hch : c < hi) (hbig : ∀ j, (j = 2 * r + 1 ∨ j = 2 * r + 2) → j < hi → at0 m (f + j) ≤ at0 m (f + c)) (hx : at0 m (f + r) < at0 m (f + c)) :
    Sift l (swp m (f + r) (f + c)) f lo hi c := by
  have hml := h.srt.len
  have hat := swp_at m (f + r) (f + c)
  have hlor := h.lor
  have A : ∀ k, at0 (swp m (f + r) (f + c)) (f + k) = if k = c then at0 m (f + r) else if k = r then at0 m (f + c) else at0 m (f + k) := fun k => by
    rw [hat (f + k) (by omega) (by omega)]
    by_cases h1 : k = c
    · rw [if_pos h1, if_pos (by omega)]
    · rw [if_neg h1, if_neg (by omega)]
      by_cases h2 : k = r
      · rw [if_pos h2, if_pos (by omega)]
      · rw [if_neg h2, if_neg (by omega)]
  refine ⟨h.srt.trans (swp_srt m (f + r) (f + c) f (f + hi) (by omega) (by omega) (by omega) (by omega) (by omega)), by omega, fun i j h1 h2 h3 h4 => ?_, fun p j h1 h2 h3 h4 => ?_⟩
  · rw [A j, A i, if_neg h2]
    by_cases hir : i = r
    · subst hir
      rw [if_pos rfl]
      by_cases hjc : j = c
      · rw [if_pos hjc]; omega
      · rw [if_neg hjc, if_neg (by omega)]; exact hbig j h3 h4
    · rw [if_neg hir]
      by_cases hjc : j = c
      · omega
      · rw [if_neg hjc]
        by_cases hjr : j = r
        · rw [if_pos hjr]
          subst hjr
          exact h.h2 i c h1 h3 hc hch
        · rw [if_neg hjr]; exact h.h1 i j h1 hir h3 h4
  · have hp : p = r := by omega
    subst hp
    rw [A j, A p, if_neg (by omega), if_neg (by omega), if_neg (by omega), if_pos rfl]
    exact h.h1 c j (by omega) (by omega) h3 h4

/-- The first of a heap is no less than any. -/
theorem heap_top {m : List Int} {f hi : Nat} (h : HeapAt m f 0 hi) : ∀ j, j < hi → at0 m (f + j) ≤ at0 m f := by
  intro j
  induction j using Nat.strongRecOn with
  | _ j ih =>
    intro hj
    by_cases h0 : j = 0
    · subst h0; exact Int.le_refl _
    · have h1 := h ((j - 1) / 2) j (Nat.zero_le _) (by omega) hj
      exact Int.le_trans h1 (ih _ (by omega) (by omega))

/-- Where the second half of the heap sort stands: i are still in the heap. -/
structure HS (l m : List Int) (f n i : Nat) : Prop where
  srt : Srt l m f (f + n)
  hin : i ≤ n
  heap : HeapAt m f 0 i
  sorted : ∀ p q, i ≤ p → p < q → q < n → at0 m (f + p) ≤ at0 m (f + q)
  above : ∀ p q, p < i → i ≤ q → q < n → at0 m (f + p) ≤ at0 m (f + q)

theorem HS.start {l m : List Int} {f n : Nat} (h : Srt l m f (f + n)) (hh : HeapAt m f 0 n) : HS l m f n n :=
  ⟨h, Nat.le_refl _, hh, fun p q h1 h2 h3 => by omega, fun p q h1 h2 h3 => by omega⟩

/-- The swap of the first and the last, and what the sifting of the rest leaves. -/
theorem HS.step {l m m' : List Int} {f n i : Nat} (h : HS l m f n (i + 1)) (hl : f + n ≤ l.length) (hs : Srt (swp m f (f + i)) m' f (f + i)) (hh : HeapAt m' f 0 i) : HS l m' f n i := by
  have hml := h.srt.len
  have hin := h.hin
  have hat := swp_at m f (f + i)
  have top := heap_top h.heap
  have s1 : Srt l (swp m f (f + i)) f (f + n) := h.srt.trans (swp_srt m f (f + i) f (f + n) (by omega) (by omega) (by omega) (by omega) (by omega))
  have A : ∀ k, at0 (swp m f (f + i)) (f + k) = if k = i then at0 m f else if k = 0 then at0 m (f + i) else at0 m (f + k) := fun k => by
    rw [hat (f + k) (by omega) (by omega)]
    by_cases h1 : k = i
    · rw [if_pos h1, if_pos (by omega)]
    · rw [if_neg h1, if_neg (by omega)]
      by_cases h2 : k = 0
      · rw [if_pos h2, if_pos (by omega)]
      · rw [if_neg h2, if_neg (by omega)]
  have hout : ∀ k, i ≤ k → at0 m' (f + k) = at0 (swp m f (f + i)) (f + k) := fun k hk => hs.at_out (.inr (by omega))
  -- all that are left in the heap are no more than the first was
  have hle : ∀ k, k ≤ i → at0 (swp m f (f + i)) (f + k) ≤ at0 m f := fun k hk => by
    rw [A k]
    by_cases h1 : k = i
    · rw [if_pos h1]; exact Int.le_refl _
    · rw [if_neg h1]
      by_cases h2 : k = 0
      · rw [if_pos h2]; exact top i (by omega)
      · rw [if_neg h2]; exact top k (by omega)
  have hab : ∀ k q, k ≤ i → i < q → q < n → at0 (swp m f (f + i)) (f + k) ≤ at0 (swp m f (f + i)) (f + q) := fun k q hk hq hqn => by
    rw [A q, if_neg (by omega), if_neg (by omega)]
    refine Int.le_trans (hle k hk) ?_
    have := h.above 0 q (by omega) (by omega) hqn
    rwa [Nat.add_zero] at this
  refine ⟨s1.trans (hs.widen (Nat.le_refl _) (by omega)), by omega, hh, fun p q h1 h2 h3 => ?_, fun p q h1 h2 h3 => ?_⟩
  · rw [hout p h1, hout q (by omega)]
    by_cases hp : p = i
    · subst hp; exact hab p q (Nat.le_refl _) h2 h3
    · rw [A p, A q, if_neg hp, if_neg (by omega), if_neg (by omega), if_neg (by omega)]
      exact h.sorted p q (by omega) h2 h3
  · obtain ⟨j, j1, j2, j3⟩ := hs.was (by omega) (by rw [s1.len]; omega) (i := f + p) (by omega) (by omega)
    rw [← j3, hout q h2]
    have e : j = f + (j - f) := by omega
    rw [e]
    by_cases hq : q = i
    · subst hq
      rw [A q, if_pos rfl]
      exact hle _ (by omega)
    · exact hab _ q (by omega) (by omega) h3

theorem HS.done {l m : List Int} {f n : Nat} (h : HS l m f n 0) : Sorted m f (f + n) := fun i j h1 h2 h3 => by
  have := h.sorted (i - f) (j - f) (Nat.zero_le _) (by omega) (by omega)
  rwa [show f + (i - f) = i by omega, show f + (j - f) = j by omega] at this
end Go.Abs
