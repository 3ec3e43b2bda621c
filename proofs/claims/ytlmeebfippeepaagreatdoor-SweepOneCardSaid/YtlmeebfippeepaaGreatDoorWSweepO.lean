/- Walks: a step of the sweep is at one object. -/
import Derived.Test.YtlmeebfippeepaaGreatDoorWSweepC
import Derived.Test.YtlmeebfippeepaaGreatDoorWHeapTells
set_option linter.all false
set_option linter.unusedVariables false
set_option linter.unusedSimpArgs false
namespace Go.Abs
open Go.Proofs Go.Proofs.YtlmeebfippeepaaGreatDoor
set_option maxRecDepth 8000

theorem may_flats {g : Hp} {cs : List Lists} (h : mayH g cs = true) : (flats (lsts g cs)).length ≤ most := by
  obtain ⟨h1, h2, h3, h4⟩ := mayH_of h
  have : (flats (lsts g cs)).length ≤ 512 := by
    refine Nat.le_trans (nodup_le h4 (m := cellStarts g.pages) fun x hx => ?_) (by unfold cellStarts; rw [List.length_map]; exact cellsAll_len _)
    obtain ⟨l, hl, hx⟩ := mem_flats.1 hx
    exact mem_starts.2 (by have := (listed_free (h2 l hl) hx).1; omega)
  unfold most; omega
theorem whole_may {g : Hp} {cs : List Lists} (h : wholeH g cs = true) : mayH g cs = true := by
  unfold wholeH at h; rw [Bool.and_eq_true] at h; exact h.1

theorem sweep_one {g k : Hp} {c d : Col} (s : SwStep g c k d) {cs : List Lists} (hw : wholeH g cs = true) :
    wholeH k cs = true ∧ (∀ u, headE g u = 0 → u ≠ d.seek → headE k u = 0 ∧ headH k u = headH g u) ∧ (d.phase ≠ 6 ∨ c.seek ≤ d.seek) ∧ (usedH k).length ≤ (usedH g).length ∧ (∀ u, headE k u = 0 → headE g u = 0) := by
  cases s with
  | idle => exact ⟨hw, fun u h _ => ⟨h, rfl⟩, .inr (Int.le_refl _), Nat.le_refl _, fun _ h => h⟩
  | pass => exact ⟨hw, fun u h _ => ⟨h, rfl⟩, .inr (Int.le_refl _), Nat.le_refl _, fun _ h => h⟩
  | done => exact ⟨hw, fun u h _ => ⟨h, rfl⟩, (.inl (show (0 : Int) ≠ 6 by decide)), Nat.le_refl _, fun _ h => h⟩
  | stay hm hp hmet hn hl hq hf => exact ⟨hw, fun u h _ => ⟨h, rfl⟩, .inr (Int.le_of_lt hl), Nat.le_refl _, fun _ h => h⟩
  | old hm hp hmet hf h0 p =>
    refine ⟨by rw [whole_put p]; exact hw, fun u h hne => ?_, .inr (Int.le_refl _), by rw [used_put p]; exact Nat.le_refl _, fun u h => by rw [← (put_head p u).1]; exact h⟩
    obtain ⟨e1, e2⟩ := put_head p u
    rw [if_neg hne] at e2
    exact ⟨by rw [e1]; exact h, e2⟩
  | free hm hp hmet hn hl hq hf h0 =>
    have f := freed (whole_may hw) h0
    refine ⟨f.whole hw, fun u h hne => ?_, .inr (Int.le_of_lt hl), by rw [f.used]; exact List.length_filter_le _ _, fun u h => ((f.head u).1.1 h).1⟩
    have h1 := (f.head u).1.2 ⟨h, hne⟩
    exact ⟨h1, (f.head u).2 h1⟩
  | dirty hm hp hmet hn hl hq hf h0 hc =>
    exact ⟨by rw [whole_cset]; exact hw, fun u h _ => ⟨by rw [headE_cset]; exact h, headH_cset _ _ _ _⟩, .inr (Int.le_of_lt hl), by rw [used_cset]; exact Nat.le_refl _, fun u h => by rw [headE_cset] at h; exact h⟩

/-- Are two heads the same? -/
def hdB (x y : Hd) : Bool := x.used == y.used && (x.old == y.old && (x.done == y.done && (x.n == y.n && (x.born == y.born && (x.mark == y.mark && true)))))
theorem hdB_self (x : Hd) : hdB x x = true := by unfold hdB; simp

set_option maxHeartbeats 4000000 in
theorem SweepOne_spec (g : Hp) (hw : ∀ x ∈ g.w, I64 x) (c : Col) (cs : List Lists) : Spec X 8 [] [g.tv, c.tv, .c (.d (.sl .lists cs))] (Ret [] (.bo true)) := by
  refine spec_go X_ok Tryz.f8 (by kernel_rfl) (by kernel_rfl) (by kernel_rfl) fun hb hH => ⟨rfl, ?_⟩
  show ACall _ _ _ _ _ _
  refine call_ret (awake18_spec) rfl ?_
  show ACall _ _ _ _ _ _
  refine call_ret (few18_spec g c) rfl ?_
  show ABr (bif (bif !true then true else !few11 g c) then true else decide ((cs.length : Int) > 4)) _ _
  refine ⟨fun h => ?_, fun h => ?_⟩
  · show ARet _ _ _
    exact ret_d rfl ⟨rfl, rfl⟩
  have hc : few11 g c = true ∧ cs.length ≤ 4 := by
    cases hf : few11 g c with
    | false => rw [hf] at h; exact absurd h (by simp)
    | true => rw [hf] at h; exact ⟨rfl, by have := of_decide_eq_false (show decide ((cs.length : Int) > 4) = false from h); omega⟩
  obtain ⟨hf, h4⟩ := hc
  obtain ⟨f1, f2, f3, f4, f5⟩ := few18_of hf
  show ∃ n, _
  refine ⟨0, ALoop.inv (ι := {i : Nat // i ≤ cs.length ∧ ∀ j, j < i → lightL (cs.getD j default)}) (fun q => ⟨[(2, .c (.d (.sl .lists (cs)))), (3, .c (.d (.rp (g.enc)))), (4, .c (.d (.rp (c.enc)))), (9, .int (q.1))], [], 32⟩) (fun q => cs.length - q.1) ⟨0, Nat.zero_le _, fun j hj => absurd hj (by omega)⟩ ?_ ?_⟩
  · exact ⟨[], (by repeat' first | exact .nil | refine .cons _ _ _ ?_ ?_ | exact .same | exact .c _ _ (.own _ _ rfl) | exact .c _ _ (.ptr _ _ _ _ rfl) | exact .c _ _ (.frz _ _ rfl) | exact .any _), (by exact .nil), (by rfl)⟩
  rintro ⟨i, hi, hn⟩
  have hi : i ≤ cs.length := hi
  have hn : ∀ j, j < i → lightL (cs.getD j default) := hn
  show ABr (decide ((i : Int) < (cs.length : Int))) _ _
  refine ⟨fun h => ?_, fun h => ?_⟩
  · have hlt : i < cs.length := by simpa using h
    have wi : IntKind.i64.wrap ((i : Int) + 1) = ((i + 1 : Nat) : Int) := wrapP (i := i) (by unfold maxN; omega)
    show AOb ((0 : Int) ≤ (i : Int) ∧ (i : Int) < (cs.length : Int)) _
    refine ⟨by omega, ?_⟩
    show ACall _ _ _ _ _ _
    refine call_ret (Light_spec (cs.getD i default)) rfl ?_
    show ABr (!decide (lightL (cs.getD i default))) _ _
    refine ⟨fun h => ?_, fun h => ?_⟩
    · show ARet _ _ _
      exact ret_d rfl ⟨rfl, rfl⟩
    · have hli : lightL (cs.getD i default) := by simpa using h
      have hnn : ∀ j, j < i + 1 → lightL (cs.getD j default) := fun j hj => by
        by_cases e : j = i
        · subst e; exact hli
        · exact hn j (by omega)
      show ARound _ _ _ _
      exact ⟨⟨i + 1, hlt, hnn⟩, (by dsimp only; omega), [], (by repeat' first | exact .nil | refine .cons _ _ _ ?_ ?_ | exact .int_eq wi | exact .same | exact .c _ _ (.own _ _ rfl) | exact .c _ _ (.ptr _ _ _ _ rfl) | exact .c _ _ (.frz _ _ rfl) | exact .any _), (by exact .nil), (by rfl)⟩
  have hge : i = cs.length := by simp at h; omega
  have hall : ∀ l ∈ cs, lightL l := mem_of_lt (by rw [← hge]; exact hn)
  have hfl := flats_few f1 h4 hall
  have hcm : cs.length < most := by unfold most; omega
  show ACall _ _ _ _ _ _
  refine call_ret (Whole_spec g cs hfl hcm) rfl ?_
  cases hwh : wholeH g cs with
  | false =>
    show ABr _ _ _
    refine ⟨fun _ => ?_, fun h => absurd h (by decide)⟩
    show ARet _ _ _
    exact ret_d rfl ⟨rfl, rfl⟩
  | true =>
    show ABr _ _ _
    refine ⟨fun h => absurd h (by decide), fun _ => ?_⟩
    obtain ⟨r1, r2, r3, r4, r5⟩ := sweep_one (sweep_step g c) hwh
    have st := sweep_step g c
    have kl := st.light f2
    show ACall _ _ _ _ _ _
    refine call_ret (swStep_spec g c f2 f3 f5) rfl ?_
    generalize sweepS g c = S at r1 r2 r3 r4 r5 st kl
    obtain ⟨k, d⟩ := S
    have r1 : wholeH k cs = true := r1
    have r2 : ∀ u, headE g u = 0 → u ≠ d.seek → headE k u = 0 ∧ headH k u = headH g u := r2
    have r3 : d.phase ≠ 6 ∨ c.seek ≤ d.seek := r3
    have r4 : (usedH k).length ≤ (usedH g).length := r4
    have kl : k.light := kl
    show ACall _ _ _ _ _ _
    refine call_ret (hUsed_spec g f2) rfl ?_
    show ∃ n, _
    refine ⟨0, ALoop.inv (ι := {j : Nat // j ≤ (usedH g).length}) (fun q => ⟨[(2, .c (.d (.sl .lists (cs)))), (3, .c (.d (.rp (g.enc)))), (4, .c (.d (.rp (c.enc)))), (10, .c (.d (.rp (k.enc)))), (11, .c (.d (.rp (d.enc)))), (12, .c (.d (.sl .int (usedH g)))), (13, .int (q.1))], [], 32⟩) (fun q => (usedH g).length - q.1) ⟨0, Nat.zero_le _⟩ ?_ ?_⟩
    · exact ⟨[], (by repeat' first | exact .nil | refine .cons _ _ _ ?_ ?_ | exact .same | exact .c _ _ (.own _ _ rfl) | exact .c _ _ (.ptr _ _ _ _ rfl) | exact .c _ _ (.frz _ _ rfl) | exact .any _), (by exact .nil), (by rfl)⟩
    rintro ⟨j, hj⟩
    have hj : j ≤ (usedH g).length := hj
    have hlen : (usedH g).length ≤ 512 := used_len g
    show ABr (decide ((j : Int) < ((usedH g).length : Int))) _ _
    refine ⟨fun h => ?_, fun h => ?_⟩
    · have hjl : j < (usedH g).length := by have := of_decide_eq_true h; omega
      have wj : IntKind.i64.wrap ((j : Int) + 1) = ((j + 1 : Nat) : Int) := wrapP (i := j) (by unfold maxN; omega)
      have hu : headE g (at0 (usedH g) j) = 0 := mem_usedH.1 (by rw [at0_get hjl]; exact List.getElem_mem _)
      show AOb ((0 : Int) ≤ (j : Int) ∧ (j : Int) < ((usedH g).length : Int)) _
      refine ⟨by omega, ?_⟩
      show ADCall _ _ _ _ _ _
      refine .mk _ _ (hHead_spec g (at0 (usedH g) j) f2) rfl ?_
      show AOb ((0 : Int) ≤ (j : Int) ∧ (j : Int) < ((usedH g).length : Int)) _
      refine ⟨by omega, ?_⟩
      show ADCall _ _ _ _ _ _
      refine .mk _ _ (hHead_spec k (at0 (usedH g) j) kl) rfl ?_
      show AOb ((0 : Int) ≤ (j : Int) ∧ (j : Int) < ((usedH g).length : Int)) _
      refine ⟨by omega, ?_⟩
      show ABr (!decide (at0 (usedH g) j = d.seek)) _ _
      by_cases hs : at0 (usedH g) j = d.seek
      · rw [decide_eq_true hs]
        show ABr _ _ _
        refine ⟨fun h => absurd h (by decide), fun _ => ?_⟩
        show ABr _ _ _
        refine ⟨fun h => absurd h (by decide), fun _ => ?_⟩
        show ARound _ _ _ _
        exact ⟨⟨j + 1, hjl⟩, (by dsimp only; omega), [], (by repeat' first | exact .nil | refine .cons _ _ _ ?_ ?_ | exact .int_eq wj | exact .same | exact .c _ _ (.own _ _ rfl) | exact .c _ _ (.ptr _ _ _ _ rfl) | exact .c _ _ (.frz _ _ rfl) | exact .any _), (by exact .nil), (by rfl)⟩
      · rw [decide_eq_false hs]
        obtain ⟨u1, u2⟩ := r2 _ hu hs
        show ABr _ _ _
        refine ⟨fun _ => ?_, fun h => absurd h (by decide)⟩
        show ABr (headE k (at0 (usedH g) j) != 0) _ _
        rw [show (headE k (at0 (usedH g) j) != 0) = false by rw [u1]; rfl]
        show ABr _ _ _
        refine ⟨fun h => absurd h (by decide), fun _ => ?_⟩
        show ABr (!hdB (headH g (at0 (usedH g) j)) (headH k (at0 (usedH g) j))) _ _
        refine ⟨fun h => absurd h (by rw [u2, hdB_self]; decide), fun _ => ?_⟩
        show ARound _ _ _ _
        exact ⟨⟨j + 1, hjl⟩, (by dsimp only; omega), [], (by repeat' first | exact .nil | refine .cons _ _ _ ?_ ?_ | exact .int_eq wj | exact .same | exact .c _ _ (.own _ _ rfl) | exact .c _ _ (.ptr _ _ _ _ rfl) | exact .c _ _ (.frz _ _ rfl) | exact .any _), (by exact .nil), (by rfl)⟩
    · show ACall _ _ _ _ _ _
      refine call_ret (Whole_spec k cs (may_flats (whole_may r1)) hcm) rfl ?_
      rw [r1]
      show AIf _ _ _
      refine ⟨fun _ => ?_, fun h => absurd ⟨(by show (bif true then (bif d.phase != 6 then true else decide (d.seek ≥ c.seek)) else false) = true; rcases r3 with k | k; rw [show (d.phase != 6) = true by simpa using k]; rfl; rw [decide_eq_true (show d.seek ≥ c.seek from k)]; cases (d.phase != 6) <;> rfl), trivial⟩ h⟩
      show ACall _ _ _ _ _ _
      refine call_ret (hUsed_spec k kl) rfl ?_
      show ARet _ _ _
      refine ret_bo (x := decide (((usedH k).length : Int) ≤ ((usedH g).length : Int))) (decide_eq_true (by omega)) ⟨rfl, rfl⟩
end Go.Abs
