/- Each word lies in just one cell, or in a free page: in plain Lean. -/
import Derived.Test.YtpkngagppfoccaaGreatDoorWHeap4
import Derived.Test.YtpkngagppfoccaaGreatDoorWBegins
set_option linter.all false
set_option linter.unusedVariables false
set_option linter.unusedSimpArgs false
namespace Go.Abs

/-- Does a cell have an address? -/
def inCell (a : Int) (x : Int × Int) : Bool := decide (x.1 ≤ a ∧ a < x.1 + x.2)
def cnt (L : List (Int × Int)) (a : Int) : Nat := (L.filter (inCell a)).length

theorem cnt_append (L M : List (Int × Int)) (a : Int) : cnt (L ++ M) a = cnt L a + cnt M a := by unfold cnt; rw [List.filter_append, List.length_append]
theorem cnt_none {L : List (Int × Int)} {a : Int} (h : ∀ x ∈ L, inCell a x = false) : cnt L a = 0 := by
  unfold cnt
  rw [List.filter_eq_nil_iff.2 fun x hx => by rw [h x hx]; simp]
  rfl

def cellsRec : Nat → List Page → List (Int × Int)
  | _, [] => []
  | i, p :: r => cellsOn p (16 * ((i : Int) + 1)) ++ cellsRec (i + 1) r

theorem cellsRec_from (l : List Page) : ∀ (n i : Nat), l.length - i = n → cellsFrom l i = cellsRec i (l.drop i)
  | 0, i, h => by
    rw [cellsFrom_end (by omega), List.drop_eq_nil_of_le (by omega)]
    rfl
  | n + 1, i, h => by
    have hi : i < l.length := by omega
    rw [cellsFrom_step hi, List.drop_eq_getElem_cons hi]
    show _ = cellsOn l[i] (16 * ((i : Int) + 1)) ++ cellsRec (i + 1) (l.drop (i + 1))
    rw [← cellsRec_from l n (i + 1) (by omega), List.getD_eq_getElem?_getD, List.getElem?_eq_getElem hi]
    rfl

theorem cellsRec_low : ∀ (ps : List Page) (i : Nat), (∀ p ∈ ps, pageOk p) → ∀ x ∈ cellsRec i ps, 16 * ((i : Int) + 1) ≤ x.1
  | [], _, _, x, h => by cases h
  | p :: r, i, hp, x, h => by
    rcases List.mem_append.1 h with h | h
    · unfold cellsOn at h
      split at h
      · rw [List.mem_singleton] at h
        subst h
        exact Int.le_refl _
      · split at h
        · rename_i h2 h1
          obtain ⟨k, _, rfl⟩ := List.mem_map.1 h
          have := clsWN ((hp p (List.mem_cons_self ..)).1 h1)
          rcases this with ⟨e, _⟩ | ⟨e, _⟩ | ⟨e, _⟩ <;> · simp only [e]; omega
        · cases h
    · have := cellsRec_low r (i + 1) (fun q hq => hp q (List.mem_cons_of_mem _ hq)) x h
      omega

theorem cnt_small {W N b a : Int} (hW : (W = 2 ∧ N = 8) ∨ (W = 4 ∧ N = 4) ∨ (W = 8 ∧ N = 2)) : cnt ((List.range N.toNat).map fun i : Nat => (b + (i : Int) * W, W)) a = if b ≤ a ∧ a < b + 16 then 1 else 0 := by
  have key : ∀ n : Nat, cnt ((List.range n).map fun i : Nat => (b + (i : Int) * W, W)) a = if b ≤ a ∧ a < b + (n : Int) * W then 1 else 0 := by
    intro n
    induction n with
    | zero => rw [if_neg (by omega)]; rfl
    | succ n ih =>
      rw [List.range_succ, List.map_append, cnt_append, ih]
      have e : cnt [(b + (n : Int) * W, W)] a = if b + (n : Int) * W ≤ a ∧ a < b + (n : Int) * W + W then 1 else 0 := by
        unfold cnt
        rw [List.filter_cons, List.filter_nil]
        unfold inCell
        by_cases h : b + (n : Int) * W ≤ a ∧ a < b + (n : Int) * W + W <;> simp [h]
      show _ + cnt [(b + (n : Int) * W, W)] a = _
      rw [e]
      have e2 : ((n + 1 : Nat) : Int) * W = (n : Int) * W + W := by rw [Int.natCast_add, Int.add_mul]; simp
      rw [e2]
      have h0 : 0 ≤ (n : Int) * W := Int.mul_nonneg (by omega) (by omega)
      have hWp : 0 < W := by omega
      generalize (n : Int) * W = m at *
      split <;> split <;> split <;> omega
  rw [key]
  rcases hW with ⟨rfl, rfl⟩ | ⟨rfl, rfl⟩ | ⟨rfl, rfl⟩ <;> rfl

theorem cnt_on {p : Page} {b a : Int} (hp : pageOk p) (hf : pageFits p = true) : cnt (cellsOn p b) a = if p.kind = 2 then (if b ≤ a ∧ a < b + p.arg * 16 then 1 else 0) else if p.kind = 1 then (if b ≤ a ∧ a < b + 16 then 1 else 0) else 0 := by
  unfold cellsOn
  by_cases h2 : p.kind = 2
  · rw [if_pos h2, if_pos h2]
    unfold cnt
    rw [List.filter_cons, List.filter_nil]
    unfold inCell
    by_cases h : b ≤ a ∧ a < b + p.arg * 16 <;> simp [h]
  · rw [if_neg h2, if_neg h2]
    by_cases h1 : p.kind = 1
    · rw [if_pos h1, if_pos h1]
      exact cnt_small (clsWN (hp.1 h1))
    · rw [if_neg h1, if_neg h1]
      rfl

/-- Is an address on a free page, of those from the i-th on? -/
def freeP (i : Nat) (ps : List Page) (a : Int) : Nat := if (ps.getD (a / 16 - 1 - (i : Int)).toNat default).kind = 0 then 1 else 0

theorem tile : ∀ (ps : List Page) (i : Nat) (r : Int), pgo r ps = true → 0 ≤ r → (∀ p ∈ ps, pageOk p) → ∀ a, 16 * ((i : Int) + 1) ≤ a → a < 16 * ((i : Int) + 1 + (ps.length : Int)) →
    cnt (cellsRec i ps) a + freeP i ps a + (if a < 16 * ((i : Int) + 1 + r) then 1 else 0) = 1
  | [], i, r, _, _, _, a, h1, h2 => by simp at h2; omega
  | p :: ps, i, r, h, hr, hp, a, h1, h2 => by
    have hlow := cellsRec_low ps (i + 1) (fun q hq => hp q (List.mem_cons_of_mem _ hq))
    have hpp := hp p (List.mem_cons_self ..)
    have hl : ((p :: ps).length : Int) = (ps.length : Int) + 1 := by simp
    rw [hl] at h2
    have ih := fun r' (h' : pgo r' ps = true) (hr' : 0 ≤ r') => tile ps (i + 1) r' h' hr' (fun q hq => hp q (List.mem_cons_of_mem _ hq)) a
    show cnt (cellsOn p (16 * ((i : Int) + 1)) ++ cellsRec (i + 1) ps) a + _ + _ = 1
    rw [cnt_append]
    have hstep : 16 * ((i : Int) + 2) ≤ a → freeP i (p :: ps) a = freeP (i + 1) ps a := by
      intro ha
      unfold freeP
      have e : (a / 16 - 1 - (i : Int)).toNat = (a / 16 - 1 - ((i + 1 : Nat) : Int)).toNat + 1 := by omega
      rw [e]
      rfl
    have hhere : a < 16 * ((i : Int) + 2) → freeP i (p :: ps) a = (if p.kind = 0 then 1 else 0) ∧ cnt (cellsRec (i + 1) ps) a = 0 := by
      intro ha
      constructor
      · unfold freeP
        have e : (a / 16 - 1 - (i : Int)).toNat = 0 := by omega
        rw [e]
        rfl
      · refine cnt_none fun x hx => ?_
        have := hlow x hx
        unfold inCell
        apply decide_eq_false
        omega
    unfold pgo at h
    by_cases h3 : p.kind = 3
    · rw [decide_eq_true h3] at h
      simp only [cond_true, Bool.and_eq_true, Bool.not_eq_true', decide_eq_false_iff_not] at h
      have hc : cnt (cellsOn p (16 * ((i : Int) + 1))) a = 0 := by
        unfold cellsOn
        rw [if_neg (by omega), if_neg (by omega)]
        rfl
      rw [hc]
      by_cases ha : a < 16 * ((i : Int) + 2)
      · obtain ⟨e1, e2⟩ := hhere ha
        rw [e1, e2, if_neg (by omega), if_pos (by omega)]
      · have := ih (r - 1) h.2 (by omega) (by omega) (by omega)
        rw [hstep (by omega)]
        have e : (16 * (((i + 1 : Nat) : Int) + 1 + (r - 1))) = 16 * ((i : Int) + 1 + r) := by omega
        rw [e] at this
        omega
    · rw [decide_eq_false h3] at h
      simp only [cond_false, Bool.and_eq_true, Bool.not_eq_true', decide_eq_false_iff_not] at h
      obtain ⟨⟨hf, h0⟩, h⟩ := h
      have hr0 : r = 0 := by omega
      subst hr0
      rw [cnt_on hpp hf]
      have hk := of_decide_eq_true hf
      by_cases hk2 : p.kind = 2
      · rw [if_pos hk2] at h ⊢
        have hpa := hpp.2 hk2
        by_cases ha : a < 16 * ((i : Int) + 2)
        · obtain ⟨e1, e2⟩ := hhere ha
          rw [e1, e2, if_pos (by omega), if_neg (by omega), if_neg (by omega)]
        · have := ih (p.arg - 1) h (by omega) (by omega) (by omega)
          rw [hstep (by omega)]
          have e : (16 * (((i + 1 : Nat) : Int) + 1 + (p.arg - 1))) = 16 * ((i : Int) + 1 + p.arg) := by omega
          rw [e] at this
          by_cases hb : a < 16 * ((i : Int) + 1 + p.arg)
          · rw [if_pos hb] at this
            rw [if_pos (by omega), if_neg (by omega)]
            omega
          · rw [if_neg hb] at this
            rw [if_neg (by omega), if_neg (by omega)]
            omega
      · rw [if_neg hk2] at h ⊢
        by_cases ha : a < 16 * ((i : Int) + 2)
        · obtain ⟨e1, e2⟩ := hhere ha
          rw [e1, e2]
          by_cases hk1 : p.kind = 1
          · rw [if_pos hk1, if_pos (by omega), if_neg (by omega), if_neg (by omega)]
          · rw [if_neg hk1, if_pos (by omega), if_neg (by omega)]
        · have := ih 0 h (by omega) (by omega) (by omega)
          rw [hstep (by omega)]
          have e : (16 * (((i + 1 : Nat) : Int) + 1 + 0)) = 16 * ((i : Int) + 2) := by omega
          rw [e, if_neg (by omega)] at this
          rw [if_neg (show ¬ a < 16 * ((i : Int) + 1 + 0) by omega)]
          by_cases hk1 : p.kind = 1
          · rw [if_pos hk1, if_neg (by omega)]; omega
          · rw [if_neg hk1]; omega
end Go.Abs
