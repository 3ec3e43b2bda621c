/- Walks: where cells begin, by the document. -/
import Derived.Test.YtfoeojkifbmddaaDoorWCells1
import Derived.Test.YtfoeojkifbmddaaDoorWHead
set_option linter.all false
set_option linter.unusedVariables false
set_option linter.unusedSimpArgs false
namespace Go.Abs
open Go.Proofs Go.Proofs.YtfoeojkifbmddaaDoor
set_option maxRecDepth 8000

def begP (p : Page) (a : Int) : Int := if p.kind = 2 ∧ a % 16 = 0 then 16 * p.arg else if p.kind = 1 then (if a % clsW p.arg = 0 then clsW p.arg else 0) else 0

theorem rng {i : Nat} {a W N : Int} (hW : (W = 2 ∧ N = 8) ∨ (W = 4 ∧ N = 4) ∨ (W = 8 ∧ N = 2)) (h1 : 16 * ((i : Int) + 1) ≤ a) (h2 : a < 16 * ((i : Int) + 2)) (hm : a % W = 0) : ∃ k : Nat, (k : Int) < N ∧ 16 * ((i : Int) + 1) + k * W = a := by
  refine ⟨((a - 16 * ((i : Int) + 1)) / W).toNat, ?_, ?_⟩ <;> rcases hW with ⟨rfl, rfl⟩ | ⟨rfl, rfl⟩ | ⟨rfl, rfl⟩ <;> omega

theorem begP_on {p : Page} {i : Nat} {a : Int} (hp : pageOk p) (h1 : 16 * ((i : Int) + 1) ≤ a) (h2 : a < 16 * ((i : Int) + 2)) (x : Int × Int) :
    x ∈ cellsOn p (16 * ((i : Int) + 1)) ∧ x.1 = a ↔ begP p a ≠ 0 ∧ x = (a, begP p a) := by
  unfold cellsOn begP
  by_cases hk : p.kind = 2
  · have ha := hp.2 hk
    rw [if_pos hk]
    by_cases hm : a % 16 = 0
    · rw [if_pos ⟨hk, hm⟩]
      have e : a = 16 * ((i : Int) + 1) := by omega
      subst e
      simp only [List.mem_singleton]
      constructor
      · rintro ⟨rfl, _⟩
        exact ⟨by omega, by rw [Int.mul_comm 16 p.arg]⟩
      · rintro ⟨_, rfl⟩
        exact ⟨by rw [Int.mul_comm 16 p.arg], rfl⟩
    · rw [if_neg (fun h => hm h.2), if_neg (by omega)]
      simp only [List.mem_singleton]
      constructor
      · rintro ⟨rfl, h⟩
        exact absurd (show a % 16 = 0 by simp only at h; omega) hm
      · rintro ⟨h, _⟩; exact absurd rfl h
  · have hk' : ¬ (p.kind = 2 ∧ a % 16 = 0) := fun h => hk h.1
    rw [if_neg hk, if_neg hk']
    by_cases hk1 : p.kind = 1
    · have ha := hp.1 hk1
      rw [if_pos hk1, if_pos hk1]
      have hWN := clsWN ha
      generalize clsW p.arg = W at hWN
      generalize clsN p.arg = N at hWN
      constructor
      · rintro ⟨h, rfl⟩
        obtain ⟨k, hkr, rfl⟩ := List.mem_map.1 h
        rw [List.mem_range] at hkr
        simp only at h1 h2 ⊢
        have hm : (16 * ((i : Int) + 1) + (k : Int) * W) % W = 0 := by rcases hWN with ⟨rfl, rfl⟩ | ⟨rfl, rfl⟩ | ⟨rfl, rfl⟩ <;> omega
        rw [if_pos hm]
        exact ⟨by omega, rfl⟩
      · rintro ⟨h, rfl⟩
        by_cases hm : a % W = 0
        · rw [if_pos hm]
          obtain ⟨k, hkN, e⟩ := rng hWN h1 h2 hm
          exact ⟨List.mem_map.2 ⟨k, List.mem_range.2 (by omega), by rw [e]⟩, rfl⟩
        · rw [if_neg hm] at h
          exact absurd rfl h
    · rw [if_neg hk1, if_neg hk1]
      constructor
      · rintro ⟨h, _⟩; cases h
      · rintro ⟨h, _⟩; exact absurd rfl h

/-- The document's answer: so many words has the cell that begins at an address. -/
def begR (l : List Page) (a : Int) : Int := if mayP l = true ∧ 16 ≤ a ∧ a < 16 + 16 * (l.length : Int) then begP (l.getD (a / 16 - 1).toNat default) a else 0

theorem begR_eq (l : List Page) (a : Int) : begR l a = roomAt l a := by
  unfold begR
  by_cases hm : mayP l = true
  · by_cases ha : 16 ≤ a ∧ a < 16 + 16 * (l.length : Int)
    · rw [if_pos ⟨hm, ha⟩]
      obtain ⟨i, hi⟩ : ∃ i : Nat, a / 16 - 1 = (i : Int) := ⟨(a / 16 - 1).toNat, by omega⟩
      rw [hi]
      have hil : i < l.length := by omega
      have hp := (mayP_ok hm).1 i hil
      have key := begP_on (i := i) (a := a) hp (by omega) (by omega)
      simp only [Int.toNat_natCast]
      by_cases h0 : begP (l.getD i default) a = 0
      · rw [h0]
        by_cases hr : roomAt l a = 0
        · exact hr.symm
        · obtain ⟨_, j, hj⟩ := cellOf_mem (roomAt_pos hr)
          have hd := hj.div
          simp only at hd
          have hji : j = i := by omega
          subst hji
          exact absurd ((key _).1 ⟨hj.mem, rfl⟩).1 (by rw [h0]; simp)
      · have hx := (key (a, begP (l.getD i default) a)).2 ⟨h0, rfl⟩
        have hmem : (a, begP (l.getD i default) a) ∈ cellsAll l := by
          unfold cellsAll
          rw [if_pos hm]
          exact cellsFrom_mem (Nat.zero_le _) hil hx.1
        exact (roomAt_mem hmem).symm
    · rw [if_neg (fun h => ha h.2)]
      by_cases hr : roomAt l a = 0
      · exact hr.symm
      · obtain ⟨_, j, hj⟩ := cellOf_mem (roomAt_pos hr)
        have h1 := hj.lo; have h2 := hj.hi; have h3 := hj.lt
        simp only at h1 h2
        omega
  · rw [if_neg (fun h => hm h.1)]
    by_cases hr : roomAt l a = 0
    · exact hr.symm
    · exact absurd (cellOf_mem (roomAt_pos hr)).1 hm

/-! All of them. -/
theorem sorted_same {l m : List Int} (hl : l.Pairwise (· < ·)) (hm : m.Pairwise (· < ·)) (h : ∀ x, x ∈ l ↔ x ∈ m) : l = m := by
  induction l generalizing m with
  | nil =>
    cases m with
    | nil => rfl
    | cons y r => exact absurd ((h y).2 (List.mem_cons_self ..)) (by simp)
  | cons x l ih =>
    cases m with
    | nil => exact absurd ((h x).1 (List.mem_cons_self ..)) (by simp)
    | cons y m =>
      rw [List.pairwise_cons] at hl hm
      have hxy : x = y := by
        rcases List.mem_cons.1 ((h x).1 (List.mem_cons_self ..)) with e | h1
        · exact e
        · rcases List.mem_cons.1 ((h y).2 (List.mem_cons_self ..)) with e | h2
          · exact e.symm
          · have := hl.1 y h2; have := hm.1 x h1; omega
      subst hxy
      rw [ih hl.2 hm.2 fun z => ?_]
      constructor
      · intro hz
        rcases List.mem_cons.1 ((h z).1 (List.mem_cons_of_mem _ hz)) with e | h1
        · subst e; exact absurd (hl.1 z hz) (by omega)
        · exact h1
      · intro hz
        rcases List.mem_cons.1 ((h z).2 (List.mem_cons_of_mem _ hz)) with e | h1
        · subst e; exact absurd (hm.1 z hz) (by omega)
        · exact h1

/-- The addresses among the first n words where cells begin. -/
def begTo (l : List Page) (n : Nat) : List Int := ((List.range n).map fun i : Nat => 16 + (i : Int)).filter fun a => decide (roomAt l a > 0)

theorem begTo_succ (l : List Page) (n : Nat) : begTo l (n + 1) = begTo l n ++ (bif decide (roomAt l (16 + (n : Int)) > 0) then [16 + (n : Int)] else []) := by
  unfold begTo
  rw [List.range_succ, List.map_append, List.filter_append]
  by_cases h : roomAt l (16 + (n : Int)) > 0 <;> simp [h]

theorem begTo_sorted (l : List Page) (n : Nat) : (begTo l n).Pairwise (· < ·) := by
  unfold begTo
  refine List.Pairwise.filter _ ?_
  rw [List.pairwise_map]
  exact List.Pairwise.imp (fun h => by omega) List.pairwise_lt_range

theorem begTo_all (l : List Page) : begTo l (16 * l.length) = cellStarts l := by
  refine sorted_same (begTo_sorted l _) (starts_sorted l) fun x => ?_
  rw [mem_starts]
  unfold begTo
  rw [List.mem_filter]
  constructor
  · rintro ⟨_, h⟩
    have := of_decide_eq_true h
    omega
  · intro h
    have h0 := roomAt_nonneg l x
    obtain ⟨_, j, hj⟩ := cellOf_mem (roomAt_pos h)
    have h1 := hj.lo; have h2 := hj.hi; have h3 := hj.lt
    simp only at h1 h2
    exact ⟨List.mem_map.2 ⟨(x - 16).toNat, List.mem_range.2 (by omega), by omega⟩, decide_eq_true (by omega)⟩

theorem starts_len (l : List Page) : (cellStarts l).length ≤ 512 := by unfold cellStarts; rw [List.length_map]; exact cellsAll_len l

theorem begTo_len (l : List Page) (n : Nat) (h : n ≤ 16 * l.length) : (begTo l n).length ≤ 512 := by
  have h1 := starts_len l
  rw [← begTo_all] at h1
  obtain ⟨k, hk⟩ : ∃ k, 16 * l.length = n + k := ⟨16 * l.length - n, by omega⟩
  rw [hk] at h1
  refine Nat.le_trans ?_ h1
  clear h1 hk h
  induction k with
  | zero => exact Nat.le_refl _
  | succ k ih => rw [← Nat.add_assoc, begTo_succ, List.length_append]; omega

end Go.Abs
