/- Walks: where cells begin, by the document. -/
import Derived.Test.YtpkngagppfoccaaGreatDoorWCells1
import Derived.Test.YtpkngagppfoccaaGreatDoorWHead
set_option linter.all false
set_option linter.unusedVariables false
set_option linter.unusedSimpArgs false
namespace Go.Abs
open Go.Proofs Go.Proofs.YtpkngagppfoccaaGreatDoor
set_option maxRecDepth 8000

def begP (p : Page) (a : Int) : Int := if p.kind = 2 ∧ a % 16 = 0 then 16 * p.arg else if p.kind = 1 then (if a % clsW p.arg = 0 then clsW p.arg else 0) else 0

theorem rng {i : Nat} {a W N : Int} (hW : (W = 2 ∧ N = 8) ∨ (W = 4 ∧ N = 4) ∨ (W = 8 ∧ N = 2)) (h1 : 16 * ((i : Int) + 1) ≤ a) (h2 : a < 16 * ((i : Int) + 2)) (hm : a % W = 0) : ∃ k : Nat, (k : Int) < N ∧ 16 * ((i : Int) + 1) + k * W = a := by
  refine ⟨((a - 16 * ((i : Int) + 1)) / W).toNat, ?_, ?_⟩ <;> rcases hW with ⟨rfl, rfl⟩ | ⟨rfl, rfl⟩ | ⟨rfl, rfl⟩ <;> omega

theorem begP_on {p : Page} {i : Nat} {a : Int} (hp : pageOk p) (h1 : 16 * ((i : Int) + 1) ≤ a) (h2 : a < 16 * ((i : Int) + 2)) (x : Int × Int) :
    x ∈ cellsOn p (16 * ((i : Int) + 1)) ∧ x.1 = a ↔ begP p a ≠ 0 ∧ x = (a, begP p a) := by
  unfold cellsOn begP
  by_cases hk : p.kind = 2
  · have ha := hp.2 hk
    rw [if_pos hk]
    by_cases hm : a % 16 = 0
    · rw [if_pos ⟨hk, hm⟩]
      have e : a = 16 * ((i : Int) + 1) := by omega
      subst e
      simp only [List.mem_singleton]
      constructor
      · rintro ⟨rfl, _⟩
        exact ⟨by omega, by rw [Int.mul_comm 16 p.arg]⟩
      · rintro ⟨_, rfl⟩
        exact ⟨by rw [Int.mul_comm 16 p.arg], rfl⟩
    · rw [if_neg (fun h => hm h.2), if_neg (by omega)]
      simp only [List.mem_singleton]
      constructor
      · rintro ⟨rfl, h⟩
        exact absurd (show a % 16 = 0 by simp only at h; omega) hm
      · rintro ⟨h, _⟩; exact absurd rfl h
  · have hk' : ¬ (p.kind = 2 ∧ a % 16 = 0) := fun h => hk h.1
    rw [if_neg hk, if_neg hk']
    by_cases hk1 : p.kind = 1
    · have ha := hp.1 hk1
      rw [if_pos hk1, if_pos hk1]
      have hWN := clsWN ha
      generalize clsW p.arg = W at hWN
      generalize clsN p.arg = N at hWN
      constructor
      · rintro ⟨h, rfl⟩
        obtain ⟨k, hkr, rfl⟩ := List.mem_map.1 h
        rw [List.mem_range] at hkr
        simp only at h1 h2 ⊢
        have hm : (16 * ((i : Int) + 1) + (k : Int) * W) % W = 0 := by rcases hWN with ⟨rfl, rfl⟩ | ⟨rfl, rfl⟩ | ⟨rfl, rfl⟩ <;> omega
        rw [if_pos hm]
        exact ⟨by omega, rfl⟩
      · rintro ⟨h, rfl⟩
        by_cases hm : a % W = 0
        · rw [if_pos hm]
          obtain ⟨k, hkN, e⟩ := rng hWN h1 h2 hm
          exact ⟨List.mem_map.2 ⟨k, List.mem_range.2 (by omega), by rw [e]⟩, rfl⟩
        · rw [if_neg hm] at h
          exact absurd rfl h
    · rw [if_neg hk1, if_neg hk1]
      constructor
      · rintro ⟨h, _⟩; cases h
      · rintro ⟨h, _⟩; exact absurd rfl h

/-- The document's answer: so many words has the cell that begins at an address. -/
def begR (l : List Page) (a : Int) : Int := if mayP l = true ∧ 16 ≤ a ∧ a < 16 + 16 * (l.length : Int) then begP (l.getD (a / 16 - 1).toNat default) a else 0

theorem begR_eq (l : List Page) (a : Int) : begR l a = roomAt l a := by
  unfold begR
  by_cases hm : mayP l = true
  · by_cases ha : 16 ≤ a ∧ a < 16 + 16 * (l.length : Int)
    · rw [if_pos ⟨hm, ha⟩]
      obtain ⟨i, hi⟩ : ∃ i : Nat, a / 16 - 1 = (i : Int) := ⟨(a / 16 - 1).toNat, by omega⟩
      rw [hi]
      have hil : i < l.length := by omega
      have hp := (mayP_ok hm).1 i hil
      have key := begP_on (i := i) (a := a) hp (by omega) (by omega)
      simp only [Int.toNat_natCast]
      by_cases h0 : begP (l.getD i default) a = 0
      · rw [h0]
        by_cases hr : roomAt l a = 0
        · exact hr.symm
        · obtain ⟨_, j, hj⟩ := cellOf_mem (roomAt_pos hr)
          have hd := hj.div
          simp only at hd
          have hji : j = i := by omega
          subst hji
          exact absurd ((key _).1 ⟨hj.mem, rfl⟩).1 (by rw [h0]; simp)
      · have hx := (key (a, begP (l.getD i default) a)).2 ⟨h0, rfl⟩
        have hmem : (a, begP (l.getD i default) a) ∈ cellsAll l := by
          unfold cellsAll
          rw [if_pos hm]
          exact cellsFrom_mem (Nat.zero_le _) hil hx.1
        exact (roomAt_mem hmem).symm
    · rw [if_neg (fun h => ha h.2)]
      by_cases hr : roomAt l a = 0
      · exact hr.symm
      · obtain ⟨_, j, hj⟩ := cellOf_mem (roomAt_pos hr)
        have h1 := hj.lo; have h2 := hj.hi; have h3 := hj.lt
        simp only at h1 h2
        omega
  · rw [if_neg (fun h => hm h.1)]
    by_cases hr : roomAt l a = 0
    · exact hr.symm
    · exact absurd (cellOf_mem (roomAt_pos hr)).1 hm

theorem Begins_spec (l : List Page) (a : Int) : Spec X 72 [] [.c (.d (.sl .page l)), .int a] (Ret [] (.int (roomAt l a))) := by
  refine spec_go X_ok Tryz.f72 (by kernel_rfl) (by kernel_rfl) (by kernel_rfl) fun hb hH => ⟨rfl, ?_⟩
  rw [← begR_eq]
  have hla : l.length ≤ maxN := (hb (.c (.d (.sl .page l))) (by simp)).1
  unfold maxN at hla
  have w1 : IntKind.i64.wrap (16 * (l.length : Int)) = 16 * (l.length : Int) := wrap64 (by omega) (by omega)
  have w2 : IntKind.i64.wrap (16 + 16 * (l.length : Int)) = 16 + 16 * (l.length : Int) := wrap64 (by omega) (by omega)
  show ACall _ _ _ _ _ _
  refine call_ret (rpMay_spec l) rfl ?_
  show ABr (bif (bif !mayP l then true else decide (a < 16)) then true else decide (a ≥ IntKind.i64.wrap (16 + IntKind.i64.wrap (16 * (l.length : Int))))) _ _
  rw [w1, w2]
  refine ⟨fun h => ?_, fun h => ?_⟩
  · show ARet _ _ _
    refine ret_int (x := 0) ?_ ⟨rfl, rfl⟩
    unfold begR
    rw [if_neg]
    rintro ⟨g1, g2, g3⟩
    have e1 : decide (a < 16) = false := decide_eq_false (by omega)
    have e2 : decide (a ≥ 16 + 16 * (l.length : Int)) = false := decide_eq_false (by omega)
    rw [g1, e1, e2] at h
    exact absurd h (by decide)
  · have hc : mayP l = true ∧ 16 ≤ a ∧ a < 16 + 16 * (l.length : Int) := by
      cases hm : mayP l with
      | false => rw [hm] at h; exact absurd h (by simp)
      | true =>
        rw [hm] at h
        by_cases e1 : a < 16
        · rw [decide_eq_true e1] at h; exact absurd h (by simp)
        · rw [decide_eq_false e1] at h
          exact ⟨rfl, by omega, by have := of_decide_eq_false h; omega⟩
    obtain ⟨hm, h1, h2⟩ := hc
    have e1 : tdv a 16 = a / 16 := tdv_eq (by omega) (by omega) (by omega)
    have e2 : IntKind.i64.wrap (tdv a 16 - 1) = a / 16 - 1 := by rw [e1]; exact wrap64 (by omega) (by omega)
    have hp : pageOk (l.getD (a / 16 - 1).toNat default) := (mayP_ok hm).1 _ (by omega)
    unfold begR
    rw [if_pos ⟨hm, h1, h2⟩]
    obtain ⟨p, hpe⟩ : ∃ p, p = l.getD (a / 16 - 1).toNat default := ⟨_, rfl⟩
    rw [← hpe] at hp ⊢
    show AOb _ _
    refine ⟨by decide, ?_⟩
    show AOb ((0 : Int) ≤ IntKind.i64.wrap (tdv a 16 - 1) ∧ IntKind.i64.wrap (tdv a 16 - 1) < (l.length : Int)) _
    refine ⟨by rw [e2]; omega, ?_⟩
    have hget : l.getD (IntKind.i64.wrap (tdv a 16 - 1)).toNat default = p := by rw [e2, hpe]
    have hmod : a.tmod 16 = a % 16 := Int.tmod_eq_emod_of_nonneg (by omega)
    show AOb _ _
    refine ⟨by simp, ?_⟩
    unfold begP
    show ABr (bif decide ((l.getD (IntKind.i64.wrap (tdv a 16 - 1)).toNat default).kind = 2) then decide (a.tmod 16 = 0) else false) _ _
    rw [hget, hmod]
    refine ⟨fun h => ?_, fun h => ?_⟩
    · have hk : p.kind = 2 ∧ a % 16 = 0 := by
        by_cases g1 : p.kind = 2
        · rw [decide_eq_true g1] at h; exact ⟨g1, of_decide_eq_true h⟩
        · rw [decide_eq_false g1] at h; exact absurd h (by simp)
      rw [if_pos hk]
      have ha := hp.2 hk.1
      show ARet _ _ [.int (IntKind.i64.wrap (16 * (l.getD (IntKind.i64.wrap (tdv a 16 - 1)).toNat default).arg))]
      rw [hget]
      exact ret_int (wrap64 (by omega) (by omega)) ⟨rfl, rfl⟩
    · have hk : ¬ (p.kind = 2 ∧ a % 16 = 0) := by
        rintro ⟨g1, g2⟩
        rw [decide_eq_true g1, decide_eq_true g2] at h
        exact absurd h (by decide)
      rw [if_neg hk]
      show ABr (decide ((l.getD (IntKind.i64.wrap (tdv a 16 - 1)).toNat default).kind = 1)) _ _
      rw [hget]
      refine ⟨fun h => ?_, fun h => ?_⟩
      · have hk1 := of_decide_eq_true h
        rw [if_pos hk1]
        have ha := hp.1 hk1
        show ACall _ _ _ _ _ _
        refine call_ret ((rWords_spec (l.getD (IntKind.i64.wrap (tdv a 16 - 1)).toNat default).arg)) rfl ?_
        rw [hget]
        have hW : 0 < clsW p.arg := by rcases clsWN ha with ⟨h, _⟩ | ⟨h, _⟩ | ⟨h, _⟩ <;> omega
        show AOb (clsW p.arg ≠ 0) _
        refine ⟨by omega, ?_⟩
        have hmod2 : a.tmod (clsW p.arg) = a % clsW p.arg := Int.tmod_eq_emod_of_nonneg (by omega)
        show ABr (decide (a.tmod (clsW p.arg) = 0)) _ _
        rw [hmod2]
        refine ⟨fun h => ?_, fun h => ?_⟩
        · rw [if_pos (of_decide_eq_true h)]
          show ARet _ _ _
          exact ret_d rfl ⟨rfl, rfl⟩
        · rw [if_neg (of_decide_eq_false h)]
          show ARet _ _ _
          exact ret_d rfl ⟨rfl, rfl⟩
      · rw [if_neg (of_decide_eq_false h)]
        show ARet _ _ _
        exact ret_d rfl ⟨rfl, rfl⟩

/-! All of them. -/
theorem sorted_same {l m : List Int} (hl : l.Pairwise (· < ·)) (hm : m.Pairwise (· < ·)) (h : ∀ x, x ∈ l ↔ x ∈ m) : l = m := by
  induction l generalizing m with
  | nil =>
    cases m with
    | nil => rfl
    | cons y r => exact absurd ((h y).2 (List.mem_cons_self ..)) (by simp)
  | cons x l ih =>
    cases m with
    | nil => exact absurd ((h x).1 (List.mem_cons_self ..)) (by simp)
    | cons y m =>
      rw [List.pairwise_cons] at hl hm
      have hxy : x = y := by
        rcases List.mem_cons.1 ((h x).1 (List.mem_cons_self ..)) with e | h1
        · exact e
        · rcases List.mem_cons.1 ((h y).2 (List.mem_cons_self ..)) with e | h2
          · exact e.symm
          · have := hl.1 y h2; have := hm.1 x h1; omega
      subst hxy
      rw [ih hl.2 hm.2 fun z => ?_]
      constructor
      · intro hz
        rcases List.mem_cons.1 ((h z).1 (List.mem_cons_of_mem _ hz)) with e | h1
        · subst e; exact absurd (hl.1 z hz) (by omega)
        · exact h1
      · intro hz
        rcases List.mem_cons.1 ((h z).2 (List.mem_cons_of_mem _ hz)) with e | h1
        · subst e; exact absurd (hm.1 z hz) (by omega)
        · exact h1

/-- The addresses among the first n words where cells begin. -/
def begTo (l : List Page) (n : Nat) : List Int := ((List.range n).map fun i : Nat => 16 + (i : Int)).filter fun a => decide (roomAt l a > 0)

theorem begTo_succ (l : List Page) (n : Nat) : begTo l (n + 1) = begTo l n ++ (bif decide (roomAt l (16 + (n : Int)) > 0) then [16 + (n : Int)] else []) := by
  unfold begTo
  rw [List.range_succ, List.map_append, List.filter_append]
  by_cases h : roomAt l (16 + (n : Int)) > 0 <;> simp [h]

theorem begTo_sorted (l : List Page) (n : Nat) : (begTo l n).Pairwise (· < ·) := by
  unfold begTo
  refine List.Pairwise.filter _ ?_
  rw [List.pairwise_map]
  exact List.Pairwise.imp (fun h => by omega) List.pairwise_lt_range

theorem begTo_all (l : List Page) : begTo l (16 * l.length) = cellStarts l := by
  refine sorted_same (begTo_sorted l _) (starts_sorted l) fun x => ?_
  rw [mem_starts]
  unfold begTo
  rw [List.mem_filter]
  constructor
  · rintro ⟨_, h⟩
    have := of_decide_eq_true h
    omega
  · intro h
    have h0 := roomAt_nonneg l x
    obtain ⟨_, j, hj⟩ := cellOf_mem (roomAt_pos h)
    have h1 := hj.lo; have h2 := hj.hi; have h3 := hj.lt
    simp only at h1 h2
    exact ⟨List.mem_map.2 ⟨(x - 16).toNat, List.mem_range.2 (by omega), by omega⟩, decide_eq_true (by omega)⟩

theorem starts_len (l : List Page) : (cellStarts l).length ≤ 512 := by unfold cellStarts; rw [List.length_map]; exact cellsAll_len l

theorem begTo_len (l : List Page) (n : Nat) (h : n ≤ 16 * l.length) : (begTo l n).length ≤ 512 := by
  have h1 := starts_len l
  rw [← begTo_all] at h1
  obtain ⟨k, hk⟩ : ∃ k, 16 * l.length = n + k := ⟨16 * l.length - n, by omega⟩
  rw [hk] at h1
  refine Nat.le_trans ?_ h1
  clear h1 hk h
  induction k with
  | zero => exact Nat.le_refl _
  | succ k ih => rw [← Nat.add_assoc, begTo_succ, List.length_append]; omega

theorem rAll5_spec (l : List Page) : Spec X 68 [] [.c (.d (.sl .page l))] (Ret [(0, .data .int (cellStarts l))] (.c (.own 0))) := by
  refine spec_go X_ok Tryz.f68 (by kernel_rfl) (by kernel_rfl) (by kernel_rfl) fun hb hH => ⟨rfl, ?_⟩
  have hla : l.length ≤ maxN := (hb (.c (.d (.sl .page l))) (by simp)).1
  unfold maxN at hla
  have w1 : IntKind.i64.wrap (16 * (l.length : Int)) = 16 * (l.length : Int) := wrap64 (by omega) (by omega)
  have w2 : IntKind.i64.wrap (16 + 16 * (l.length : Int)) = 16 + 16 * (l.length : Int) := wrap64 (by omega) (by omega)
  show ∃ n, _
  refine ⟨0, ALoop.inv (ι := {i : Nat // i ≤ 16 * l.length}) (fun i => ⟨[(0, .c (.d (.sl .page l))), (3, .c (.own 1)), (4, .int (16 + (i.1 : Int)))], [(1, .data .int (begTo l i.1))], 64⟩) (fun i => 16 * l.length - i.1) ⟨0, Nat.zero_le _⟩ ?_ ?_⟩
  · exact ⟨[], .cons _ _ _ .same (.cons _ _ _ (.c _ _ (.nilown 1 .int rfl rfl)) (.cons _ _ _ .same .nil)), .new 1 .int _ rfl .nil, rfl⟩
  · rintro ⟨i, hi⟩
    show ABr (decide (16 + (i : Int) < IntKind.i64.wrap (16 + IntKind.i64.wrap (16 * (l.length : Int))))) _ _
    rw [w1, w2]
    refine ⟨fun h => ?_, fun h => ?_⟩
    · have hlt : i < 16 * l.length := by have := of_decide_eq_true h; omega
      have wi : IntKind.i64.wrap (16 + (i : Int) + 1) = 16 + ((i + 1 : Nat) : Int) := by rw [wrap64 (by omega) (by omega)]; omega
      show ACall _ _ _ _ _ _
      refine call_ret (Begins_spec l (16 + (i : Int))) rfl ?_
      have hs := begTo_succ l i
      have hl5 := begTo_len l i hi
      show ABr (decide (roomAt l (16 + (i : Int)) > 0)) _ _
      refine ⟨fun h => ?_, fun h => ?_⟩
      · rw [h] at hs
        show AOb ((begTo l i).length + 1 ≤ most) _
        refine ⟨by unfold most; omega, ?_⟩
        show ARound _ _ _ _
        exact ⟨⟨i + 1, hlt⟩, by show 16 * l.length - (i + 1) < 16 * l.length - i; omega, [(_, 1)], .cons _ _ _ .same (.cons _ _ _ (.c _ _ (.own1 _ _)) (.cons _ _ _ (.int_eq wi) .nil)), .old 1 _ _ _ _ rfl rfl (.data_eq hs.symm) .nil, rfl⟩
      · rw [h] at hs
        show ARound _ _ _ _
        exact ⟨⟨i + 1, hlt⟩, by show 16 * l.length - (i + 1) < 16 * l.length - i; omega, [(1, 1)], .cons _ _ _ .same (.cons _ _ _ (.c _ _ (.own1 _ _)) (.cons _ _ _ (.int_eq wi) .nil)), .old 1 1 _ _ _ rfl rfl (.data_eq (by rw [hs]; exact (List.append_nil _).symm)) .nil, rfl⟩
    · have hge : i = 16 * l.length := by have := of_decide_eq_false h; omega
      subst hge
      show ARet _ _ _
      exact ⟨[(1, 0)], [(0, .data .int (cellStarts l))], [.c (.own 0)], .cons _ _ _ _ (.c _ _ (.own1 _ _)) .nil, .old 0 1 _ _ _ rfl rfl (.data_eq (begTo_all l)) .nil, rfl, rfl, rfl⟩
end Go.Abs
