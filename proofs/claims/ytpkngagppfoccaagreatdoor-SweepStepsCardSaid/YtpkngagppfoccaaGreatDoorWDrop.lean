/- A page is dropped; the pages' tiling. -/
import Derived.Test.YtpkngagppfoccaaGreatDoorWHeap4
import Derived.Test.YtpkngagppfoccaaGreatDoorWBegins
set_option linter.all false
set_option linter.unusedVariables false
set_option linter.unusedSimpArgs false
namespace Go.Abs

/-- Does a cell have an address? -/
def inCell (a : Int) (x : Int × Int) : Bool := decide (x.1 ≤ a ∧ a < x.1 + x.2)
def cnt (L : List (Int × Int)) (a : Int) : Nat := (L.filter (inCell a)).length

theorem cnt_append (L M : List (Int × Int)) (a : Int) : cnt (L ++ M) a = cnt L a + cnt M a := by unfold cnt; rw [List.filter_append, List.length_append]
theorem cnt_none {L : List (Int × Int)} {a : Int} (h : ∀ x ∈ L, inCell a x = false) : cnt L a = 0 := by
  unfold cnt
  rw [List.filter_eq_nil_iff.2 fun x hx => by rw [h x hx]; simp]
  rfl

def cellsRec : Nat → List Page → List (Int × Int)
  | _, [] => []
  | i, p :: r => cellsOn p (16 * ((i : Int) + 1)) ++ cellsRec (i + 1) r

theorem cellsRec_from (l : List Page) : ∀ (n i : Nat), l.length - i = n → cellsFrom l i = cellsRec i (l.drop i)
  | 0, i, h => by
    rw [cellsFrom_end (by omega), List.drop_eq_nil_of_le (by omega)]
    rfl
  | n + 1, i, h => by
    have hi : i < l.length := by omega
    rw [cellsFrom_step hi, List.drop_eq_getElem_cons hi]
    show _ = cellsOn l[i] (16 * ((i : Int) + 1)) ++ cellsRec (i + 1) (l.drop (i + 1))
    rw [← cellsRec_from l n (i + 1) (by omega), List.getD_eq_getElem?_getD, List.getElem?_eq_getElem hi]
    rfl

theorem cellsRec_low : ∀ (ps : List Page) (i : Nat), (∀ p ∈ ps, pageOk p) → ∀ x ∈ cellsRec i ps, 16 * ((i : Int) + 1) ≤ x.1
  | [], _, _, x, h => by cases h
  | p :: r, i, hp, x, h => by
    rcases List.mem_append.1 h with h | h
    · unfold cellsOn at h
      split at h
      · rw [List.mem_singleton] at h
        subst h
        exact Int.le_refl _
      · split at h
        · rename_i h2 h1
          obtain ⟨k, _, rfl⟩ := List.mem_map.1 h
          have := clsWN ((hp p (List.mem_cons_self ..)).1 h1)
          rcases this with ⟨e, _⟩ | ⟨e, _⟩ | ⟨e, _⟩ <;> · simp only [e]; omega
        · cases h
    · have := cellsRec_low r (i + 1) (fun q hq => hp q (List.mem_cons_of_mem _ hq)) x h
      omega

theorem cnt_small {W N b a : Int} (hW : (W = 2 ∧ N = 8) ∨ (W = 4 ∧ N = 4) ∨ (W = 8 ∧ N = 2)) : cnt ((List.range N.toNat).map fun i : Nat => (b + (i : Int) * W, W)) a = if b ≤ a ∧ a < b + 16 then 1 else 0 := by
  have key : ∀ n : Nat, cnt ((List.range n).map fun i : Nat => (b + (i : Int) * W, W)) a = if b ≤ a ∧ a < b + (n : Int) * W then 1 else 0 := by
    intro n
    induction n with
    | zero => rw [if_neg (by omega)]; rfl
    | succ n ih =>
      rw [List.range_succ, List.map_append, cnt_append, ih]
      have e : cnt [(b + (n : Int) * W, W)] a = if b + (n : Int) * W ≤ a ∧ a < b + (n : Int) * W + W then 1 else 0 := by
        unfold cnt
        rw [List.filter_cons, List.filter_nil]
        unfold inCell
        by_cases h : b + (n : Int) * W ≤ a ∧ a < b + (n : Int) * W + W <;> simp [h]
      show _ + cnt [(b + (n : Int) * W, W)] a = _
      rw [e]
      have e2 : ((n + 1 : Nat) : Int) * W = (n : Int) * W + W := by rw [Int.natCast_add, Int.add_mul]; simp
      rw [e2]
      have h0 : 0 ≤ (n : Int) * W := Int.mul_nonneg (by omega) (by omega)
      have hWp : 0 < W := by omega
      generalize (n : Int) * W = m at *
      split <;> split <;> split <;> omega
  rw [key]
  rcases hW with ⟨rfl, rfl⟩ | ⟨rfl, rfl⟩ | ⟨rfl, rfl⟩ <;> rfl

theorem cnt_on {p : Page} {b a : Int} (hp : pageOk p) (hf : pageFits p = true) : cnt (cellsOn p b) a = if p.kind = 2 then (if b ≤ a ∧ a < b + p.arg * 16 then 1 else 0) else if p.kind = 1 then (if b ≤ a ∧ a < b + 16 then 1 else 0) else 0 := by
  unfold cellsOn
  by_cases h2 : p.kind = 2
  · rw [if_pos h2, if_pos h2]
    unfold cnt
    rw [List.filter_cons, List.filter_nil]
    unfold inCell
    by_cases h : b ≤ a ∧ a < b + p.arg * 16 <;> simp [h]
  · rw [if_neg h2, if_neg h2]
    by_cases h1 : p.kind = 1
    · rw [if_pos h1, if_pos h1]
      exact cnt_small (clsWN (hp.1 h1))
    · rw [if_neg h1, if_neg h1]
      rfl

/-- Is an address on a free page, of those from the i-th on? -/
def freeP (i : Nat) (ps : List Page) (a : Int) : Nat := if (ps.getD (a / 16 - 1 - (i : Int)).toNat default).kind = 0 then 1 else 0

theorem tile : ∀ (ps : List Page) (i : Nat) (r : Int), pgo r ps = true → 0 ≤ r → (∀ p ∈ ps, pageOk p) → ∀ a, 16 * ((i : Int) + 1) ≤ a → a < 16 * ((i : Int) + 1 + (ps.length : Int)) →
    cnt (cellsRec i ps) a + freeP i ps a + (if a < 16 * ((i : Int) + 1 + r) then 1 else 0) = 1
  | [], i, r, _, _, _, a, h1, h2 => by simp at h2; omega
  | p :: ps, i, r, h, hr, hp, a, h1, h2 => by
    have hlow := cellsRec_low ps (i + 1) (fun q hq => hp q (List.mem_cons_of_mem _ hq))
    have hpp := hp p (List.mem_cons_self ..)
    have hl : ((p :: ps).length : Int) = (ps.length : Int) + 1 := by simp
    rw [hl] at h2
    have ih := fun r' (h' : pgo r' ps = true) (hr' : 0 ≤ r') => tile ps (i + 1) r' h' hr' (fun q hq => hp q (List.mem_cons_of_mem _ hq)) a
    show cnt (cellsOn p (16 * ((i : Int) + 1)) ++ cellsRec (i + 1) ps) a + _ + _ = 1
    rw [cnt_append]
    have hstep : 16 * ((i : Int) + 2) ≤ a → freeP i (p :: ps) a = freeP (i + 1) ps a := by
      intro ha
      unfold freeP
      have e : (a / 16 - 1 - (i : Int)).toNat = (a / 16 - 1 - ((i + 1 : Nat) : Int)).toNat + 1 := by omega
      rw [e]
      rfl
    have hhere : a < 16 * ((i : Int) + 2) → freeP i (p :: ps) a = (if p.kind = 0 then 1 else 0) ∧ cnt (cellsRec (i + 1) ps) a = 0 := by
      intro ha
      constructor
      · unfold freeP
        have e : (a / 16 - 1 - (i : Int)).toNat = 0 := by omega
        rw [e]
        rfl
      · refine cnt_none fun x hx => ?_
        have := hlow x hx
        unfold inCell
        apply decide_eq_false
        omega
    unfold pgo at h
    by_cases h3 : p.kind = 3
    · rw [decide_eq_true h3] at h
      simp only [cond_true, Bool.and_eq_true, Bool.not_eq_true', decide_eq_false_iff_not] at h
      have hc : cnt (cellsOn p (16 * ((i : Int) + 1))) a = 0 := by
        unfold cellsOn
        rw [if_neg (by omega), if_neg (by omega)]
        rfl
      rw [hc]
      by_cases ha : a < 16 * ((i : Int) + 2)
      · obtain ⟨e1, e2⟩ := hhere ha
        rw [e1, e2, if_neg (by omega), if_pos (by omega)]
      · have := ih (r - 1) h.2 (by omega) (by omega) (by omega)
        rw [hstep (by omega)]
        have e : (16 * (((i + 1 : Nat) : Int) + 1 + (r - 1))) = 16 * ((i : Int) + 1 + r) := by omega
        rw [e] at this
        omega
    · rw [decide_eq_false h3] at h
      simp only [cond_false, Bool.and_eq_true, Bool.not_eq_true', decide_eq_false_iff_not] at h
      obtain ⟨⟨hf, h0⟩, h⟩ := h
      have hr0 : r = 0 := by omega
      subst hr0
      rw [cnt_on hpp hf]
      have hk := of_decide_eq_true hf
      by_cases hk2 : p.kind = 2
      · rw [if_pos hk2] at h ⊢
        have hpa := hpp.2 hk2
        by_cases ha : a < 16 * ((i : Int) + 2)
        · obtain ⟨e1, e2⟩ := hhere ha
          rw [e1, e2, if_pos (by omega), if_neg (by omega), if_neg (by omega)]
        · have := ih (p.arg - 1) h (by omega) (by omega) (by omega)
          rw [hstep (by omega)]
          have e : (16 * (((i + 1 : Nat) : Int) + 1 + (p.arg - 1))) = 16 * ((i : Int) + 1 + p.arg) := by omega
          rw [e] at this
          by_cases hb : a < 16 * ((i : Int) + 1 + p.arg)
          · rw [if_pos hb] at this
            rw [if_pos (by omega), if_neg (by omega)]
            omega
          · rw [if_neg hb] at this
            rw [if_neg (by omega), if_neg (by omega)]
            omega
      · rw [if_neg hk2] at h ⊢
        by_cases ha : a < 16 * ((i : Int) + 2)
        · obtain ⟨e1, e2⟩ := hhere ha
          rw [e1, e2]
          by_cases hk1 : p.kind = 1
          · rw [if_pos hk1, if_pos (by omega), if_neg (by omega), if_neg (by omega)]
          · rw [if_neg hk1, if_pos (by omega), if_neg (by omega)]
        · have := ih 0 h (by omega) (by omega) (by omega)
          rw [hstep (by omega)]
          have e : (16 * (((i + 1 : Nat) : Int) + 1 + 0)) = 16 * ((i : Int) + 2) := by omega
          rw [e, if_neg (by omega)] at this
          rw [if_neg (show ¬ a < 16 * ((i : Int) + 1 + 0) by omega)]
          by_cases hk1 : p.kind = 1
          · rw [if_pos hk1, if_neg (by omega)]; omega
          · rw [if_neg hk1]; omega
end Go.Abs

namespace Go.Abs

/-- Pages with some others in places of theirs. -/
def putP (l : List Page) (i : Nat) (o : List Page) : List Page := splice l i (o.take (l.length - i))
/-- How many pages it goes on for. -/
def sizeP (p : Page) : Nat := if p.kind = 2 then p.arg.toNat else 1
def dropP (l : List Page) (i : Nat) : List Page := putP l i (List.replicate (sizeP (l.getD i default)) ⟨0, 0⟩)

theorem putP_cat {l o : List Page} {i : Nat} (h : i + o.length ≤ l.length) : putP l i o = l.take i ++ o ++ l.drop (i + o.length) := by
  unfold putP splice
  rw [List.take_of_length_le (l := o) (by omega)]

theorem pgo_split : ∀ (n : Nat) (t : List Page), pgo (n : Int) t = true → n ≤ t.length ∧ pgo 0 (t.drop n) = true ∧ ∀ j, j < n → t.getD j default = ⟨3, 0⟩
  | 0, t, h => ⟨Nat.zero_le _, h, fun j hj => absurd hj (by omega)⟩
  | n + 1, [], h => by rw [pgo_nil (by omega)] at h; cases h
  | n + 1, q :: t, h => by
    rw [pgo_rest (by omega), Bool.and_eq_true] at h
    obtain ⟨h1, h2⟩ := h
    rw [show ((n + 1 : Nat) : Int) - 1 = (n : Int) by omega] at h2
    obtain ⟨k1, k2, k3⟩ := pgo_split n t h2
    refine ⟨by simp; omega, k2, fun j hj => ?_⟩
    cases j with
    | zero => exact of_decide_eq_true h1
    | succ j => exact k3 j (by omega)

theorem pgo_zeros (t : List Page) : ∀ n : Nat, pgo 0 (List.replicate n ⟨0, 0⟩ ++ t) = pgo 0 t
  | 0 => rfl
  | n + 1 => by
    rw [List.replicate_succ, List.cons_append]
    exact pgo_zeros t n

theorem pgo_drop : ∀ (l : List Page) (i : Nat) (r : Int), pgo r l = true → 0 ≤ r → i < l.length → (l.getD i default).kind = 1 ∨ (l.getD i default).kind = 2 →
    i + sizeP (l.getD i default) ≤ l.length ∧ 1 ≤ sizeP (l.getD i default) ∧ pgo r (l.take i ++ List.replicate (sizeP (l.getD i default)) ⟨0, 0⟩ ++ l.drop (i + sizeP (l.getD i default))) = true ∧ ∀ j, i < j → j < i + sizeP (l.getD i default) → l.getD j default = ⟨3, 0⟩
  | [], i, r, _, _, h, _ => absurd h (by simp)
  | p :: t, 0, r, h, hr, hi, hk => by
    have hk : p.kind = 1 ∨ p.kind = 2 := hk
    unfold pgo at h
    rw [decide_eq_false (show ¬ p.kind = 3 by omega)] at h
    simp only [cond_false, Bool.and_eq_true] at h
    obtain ⟨⟨h1, h2⟩, h3⟩ := h
    have hr0 : r = 0 := by simp at h2; omega
    subst hr0
    have hf := of_decide_eq_true h1
    show 0 + sizeP p ≤ (p :: t).length ∧ 1 ≤ sizeP p ∧ pgo 0 (List.take 0 (p :: t) ++ List.replicate (sizeP p) ⟨0, 0⟩ ++ (p :: t).drop (0 + sizeP p)) = true ∧ ∀ j, 0 < j → j < 0 + sizeP p → (p :: t).getD j default = ⟨3, 0⟩
    rcases hk with hk | hk
    · have hs : sizeP p = 1 := by unfold sizeP; rw [if_neg (by omega)]
      rw [if_neg (by omega)] at h3
      rw [hs]
      exact ⟨by simp, Nat.le_refl _, (pgo_zeros t 1).trans h3, fun j h1 h2 => absurd h2 (by omega)⟩
    · rw [if_pos hk] at h3
      have hs : sizeP p = p.arg.toNat := by unfold sizeP; rw [if_pos hk]
      have ha : 1 ≤ p.arg := by omega
      obtain ⟨n, hn⟩ : ∃ n : Nat, p.arg.toNat = n + 1 := ⟨p.arg.toNat - 1, by omega⟩
      rw [show p.arg - 1 = (n : Int) by omega] at h3
      obtain ⟨k1, k2, k3⟩ := pgo_split n t h3
      rw [hs, hn]
      refine ⟨by simp; omega, by omega, ?_, fun j h1 h2 => ?_⟩
      · rw [List.take_zero, List.nil_append, pgo_zeros, Nat.zero_add, List.drop_succ_cons]; exact k2
      · obtain ⟨m, rfl⟩ : ∃ m, j = m + 1 := ⟨j - 1, by omega⟩
        exact k3 m (by omega)
  | p :: t, i + 1, r, h, hr, hi, hk => by
    have hk : (t.getD i default).kind = 1 ∨ (t.getD i default).kind = 2 := hk
    have hi : i < t.length := by simpa using hi
    have step : ∀ r', pgo r' t = true → 0 ≤ r' → _ := fun r' h' hr' => pgo_drop t i r' h' hr' hi hk
    show i + 1 + sizeP (t.getD i default) ≤ (p :: t).length ∧ 1 ≤ sizeP (t.getD i default) ∧ pgo r (List.take (i + 1) (p :: t) ++ List.replicate (sizeP (t.getD i default)) ⟨0, 0⟩ ++ (p :: t).drop (i + 1 + sizeP (t.getD i default))) = true ∧ ∀ j, i + 1 < j → j < i + 1 + sizeP (t.getD i default) → (p :: t).getD j default = ⟨3, 0⟩
    have e : i + 1 + sizeP (t.getD i default) = (i + sizeP (t.getD i default)) + 1 := by omega
    rw [e, List.take_succ_cons, List.drop_succ_cons, List.cons_append, List.cons_append]
    unfold pgo at h ⊢
    cases h3 : decide (p.kind = 3) with
    | true =>
      rw [h3] at h
      simp only [cond_true, Bool.and_eq_true] at h ⊢
      obtain ⟨⟨h1, h2⟩, h4⟩ := h
      obtain ⟨s1, s2, s3, s4⟩ := step _ h4 (by simp at h1; omega)
      refine ⟨Nat.succ_le_succ s1, s2, ⟨⟨h1, h2⟩, s3⟩, fun j hj1 hj2 => ?_⟩
      obtain ⟨m, rfl⟩ : ∃ m, j = m + 1 := ⟨j - 1, by omega⟩
      exact s4 m (Nat.lt_of_succ_lt_succ hj1) (Nat.lt_of_succ_lt_succ hj2)
    | false =>
      rw [h3] at h
      simp only [cond_false, Bool.and_eq_true] at h ⊢
      obtain ⟨⟨h1, h2⟩, h4⟩ := h
      have hf := of_decide_eq_true h1
      obtain ⟨s1, s2, s3, s4⟩ := step _ h4 (by split <;> omega)
      refine ⟨Nat.succ_le_succ s1, s2, ⟨⟨h1, h2⟩, s3⟩, fun j hj1 hj2 => ?_⟩
      obtain ⟨m, rfl⟩ : ∃ m, j = m + 1 := ⟨j - 1, by omega⟩
      exact s4 m (Nat.lt_of_succ_lt_succ hj1) (Nat.lt_of_succ_lt_succ hj2)

/-- What is let go: a page that may be. -/
structure Drops (l : List Page) (i : Nat) : Prop where
  may : mayP l = true
  lt : i < l.length
  kind : (l.getD i default).kind = 1 ∨ (l.getD i default).kind = 2

namespace Drops
variable {l : List Page} {i : Nat}
theorem eq (h : Drops l i) : dropP l i = l.take i ++ List.replicate (sizeP (l.getD i default)) ⟨0, 0⟩ ++ l.drop (i + sizeP (l.getD i default)) := by
  have hm := h.may; unfold mayP at hm; rw [Bool.and_eq_true] at hm
  have := (pgo_drop l i 0 hm.1 (Int.le_refl _) h.lt h.kind).1
  unfold dropP
  rw [putP_cat (by simpa using this), List.length_replicate]
theorem all (h : Drops l i) : i + sizeP (l.getD i default) ≤ l.length ∧ 1 ≤ sizeP (l.getD i default) ∧ pgo 0 (dropP l i) = true ∧ ∀ j, i < j → j < i + sizeP (l.getD i default) → l.getD j default = ⟨3, 0⟩ := by
  have hm := h.may; unfold mayP at hm; rw [Bool.and_eq_true] at hm
  rw [h.eq]
  exact pgo_drop l i 0 hm.1 (Int.le_refl _) h.lt h.kind
theorem len (h : Drops l i) : (dropP l i).length = l.length := by
  have h1 := h.all.1
  rw [h.eq]
  generalize sizeP (l.getD i default) = n at h1
  simp; omega
theorem may' (h : Drops l i) : mayP (dropP l i) = true := by
  have hm := h.may; unfold mayP at hm ⊢; rw [Bool.and_eq_true] at hm ⊢
  rw [h.len]
  exact ⟨h.all.2.2.1, hm.2⟩
theorem get (h : Drops l i) (j : Nat) : (dropP l i).getD j default = if i ≤ j ∧ j < i + sizeP (l.getD i default) then ⟨0, 0⟩ else l.getD j default := by
  have h1 := h.all.1
  have hl := h.lt
  rw [h.eq]
  generalize sizeP (l.getD i default) = n at h1
  simp only [List.getD_eq_getElem?_getD]
  by_cases c1 : j < i
  · rw [if_neg (by omega), List.append_assoc, List.getElem?_append_left (by simp; omega), List.getElem?_take_of_lt c1]
  · rw [List.append_assoc, List.getElem?_append_right (by simp; omega)]
    have e1 : (l.take i).length = i := by simp; omega
    rw [e1]
    by_cases c2 : j < i + n
    · rw [if_pos ⟨by omega, c2⟩, List.getElem?_append_left (by simp; omega), List.getElem?_replicate, if_pos (by omega)]; rfl
    · rw [if_neg (by omega), List.getElem?_append_right (by simp; omega), List.getElem?_drop, List.length_replicate]
      congr 2; omega
theorem on (h : Drops l i) {j : Nat} (hj : j ≠ i) (x : Int) : cellsOn ((dropP l i).getD j default) x = cellsOn (l.getD j default) x := by
  rw [h.get]
  split
  · rename_i c
    rw [h.all.2.2.2 j (by omega) c.2]; rfl
  · rfl
theorem at_ (h : Drops l i) (x : Int) : cellsOn ((dropP l i).getD i default) x = [] := by
  rw [h.get, if_pos ⟨Nat.le_refl _, by have := h.all.2.1; omega⟩]; rfl
theorem keep (h : Drops l i) {j : Nat} (hj : j ≠ i) (hk : (l.getD j default).kind ≠ 3) : (dropP l i).getD j default = l.getD j default := by
  rw [h.get]
  split
  · rename_i c
    rw [h.all.2.2.2 j (by omega) c.2] at hk; exact absurd rfl hk
  · rfl
theorem cells (h : Drops l i) : cellsAll (dropP l i) = (cellsAll l).filter fun x => decide (x.1 / 16 - 1 ≠ (i : Int)) := by
  have hp := (mayP_ok h.may).1
  unfold cellsAll
  rw [if_pos h.may', if_pos h.may]
  unfold cellsFrom
  rw [h.len, List.drop_zero, List.filter_flatMap]
  rw [List.flatMap_def, List.flatMap_def]
  congr 1
  apply List.map_congr_left
  intro j hj
  have hj : j < l.length := by simpa using hj
  by_cases e : j = i
  · subst e
    rw [h.at_]
    symm
    rw [List.filter_eq_nil_iff]
    intro x hx
    have := (cellOf_on hj (hp j hj) hx).div
    simp [this]
  · rw [h.on e]
    symm
    rw [List.filter_eq_self]
    intro x hx
    have := (cellOf_on hj (hp j hj) hx).div
    exact decide_eq_true (by omega)
theorem starts (h : Drops l i) : cellStarts (dropP l i) = (cellStarts l).filter fun a => decide (a / 16 - 1 ≠ (i : Int)) := by
  unfold cellStarts
  rw [h.cells, List.filter_map]
  rfl
theorem room (h : Drops l i) (a : Int) : roomAt (dropP l i) a = if a / 16 - 1 = (i : Int) then 0 else roomAt l a := by
  by_cases e : a / 16 - 1 = (i : Int)
  · rw [if_pos e]
    apply Classical.byContradiction
    intro hr
    have := mem_starts.2 hr
    rw [h.starts, List.mem_filter] at this
    exact of_decide_eq_true this.2 e
  · rw [if_neg e]
    by_cases hr : roomAt l a = 0
    · rw [hr]
      apply Classical.byContradiction
      intro hr'
      have := mem_starts.2 hr'
      rw [h.starts, List.mem_filter] at this
      exact mem_starts.1 this.1 hr
    · have h1 := roomAt_pos hr
      have h2 : (a, roomAt l a) ∈ cellsAll (dropP l i) := by
        rw [h.cells, List.mem_filter]
        exact ⟨h1, decide_eq_true e⟩
      exact roomAt_mem h2
end Drops
end Go.Abs
