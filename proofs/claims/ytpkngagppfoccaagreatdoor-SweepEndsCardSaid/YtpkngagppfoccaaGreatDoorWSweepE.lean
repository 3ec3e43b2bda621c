/- A run of the sweep; a step goes to one cell. -/
import Derived.Test.YtpkngagppfoccaaGreatDoorWSweepC
import Derived.Test.YtpkngagppfoccaaGreatDoorWHeapTells
set_option linter.all false
set_option linter.unusedVariables false
set_option linter.unusedSimpArgs false
namespace Go.Abs
open Go.Proofs Go.Proofs.YtpkngagppfoccaaGreatDoor
set_option maxRecDepth 8000

theorem may_flats {g : Hp} {cs : List Lists} (h : mayH g cs = true) : (flats (lsts g cs)).length ≤ most := by
  obtain ⟨h1, h2, h3, h4⟩ := mayH_of h
  have : (flats (lsts g cs)).length ≤ 512 := by
    refine Nat.le_trans (nodup_le h4 (m := cellStarts g.pages) fun x hx => ?_) (by unfold cellStarts; rw [List.length_map]; exact cellsAll_len _)
    obtain ⟨l, hl, hx⟩ := mem_flats.1 hx
    exact mem_starts.2 (by have := (listed_free (h2 l hl) hx).1; omega)
  unfold most; omega
theorem whole_may {g : Hp} {cs : List Lists} (h : wholeH g cs = true) : mayH g cs = true := by
  unfold wholeH at h; rw [Bool.and_eq_true] at h; exact h.1

theorem sweep_one {g k : Hp} {c d : Col} (s : SwStep g c k d) {cs : List Lists} (hw : wholeH g cs = true) :
    wholeH k cs = true ∧ (∀ u, headE g u = 0 → u ≠ d.seek → headE k u = 0 ∧ headH k u = headH g u) ∧ (d.phase ≠ 6 ∨ c.seek ≤ d.seek) ∧ (usedH k).length ≤ (usedH g).length ∧ (∀ u, headE k u = 0 → headE g u = 0) := by
  cases s with
  | idle => exact ⟨hw, fun u h _ => ⟨h, rfl⟩, .inr (Int.le_refl _), Nat.le_refl _, fun _ h => h⟩
  | pass => exact ⟨hw, fun u h _ => ⟨h, rfl⟩, .inr (Int.le_refl _), Nat.le_refl _, fun _ h => h⟩
  | done => exact ⟨hw, fun u h _ => ⟨h, rfl⟩, (.inl (show (0 : Int) ≠ 6 by decide)), Nat.le_refl _, fun _ h => h⟩
  | stay hm hp hmet hn hl hq hf => exact ⟨hw, fun u h _ => ⟨h, rfl⟩, .inr (Int.le_of_lt hl), Nat.le_refl _, fun _ h => h⟩
  | old hm hp hmet hf h0 p =>
    refine ⟨by rw [whole_put p]; exact hw, fun u h hne => ?_, .inr (Int.le_refl _), by rw [used_put p]; exact Nat.le_refl _, fun u h => by rw [← (put_head p u).1]; exact h⟩
    obtain ⟨e1, e2⟩ := put_head p u
    rw [if_neg hne] at e2
    exact ⟨by rw [e1]; exact h, e2⟩
  | free hm hp hmet hn hl hq hf h0 =>
    have f := freed (whole_may hw) h0
    refine ⟨f.whole hw, fun u h hne => ?_, .inr (Int.le_of_lt hl), by rw [f.used]; exact List.length_filter_le _ _, fun u h => ((f.head u).1.1 h).1⟩
    have h1 := (f.head u).1.2 ⟨h, hne⟩
    exact ⟨h1, (f.head u).2 h1⟩
  | dirty hm hp hmet hn hl hq hf h0 hc =>
    exact ⟨by rw [whole_cset]; exact hw, fun u h _ => ⟨by rw [headE_cset]; exact h, headH_cset _ _ _ _⟩, .inr (Int.le_of_lt hl), by rw [used_cset]; exact Nat.le_refl _, fun u h => by rw [headE_cset] at h; exact h⟩

/-- Are two heads the same? -/
def hdB (x y : Hd) : Bool := x.used == y.used && (x.old == y.old && (x.done == y.done && (x.n == y.n && (x.born == y.born && (x.mark == y.mark && true)))))
theorem hdB_self (x : Hd) : hdB x x = true := by unfold hdB; simp

set_option maxHeartbeats 4000000 in
theorem SweepOne_spec (g : Hp) (hw : ∀ x ∈ g.w, I64 x) (c : Col) (cs : List Lists) : Spec X 8 [] [g.tv, c.tv, .c (.d (.sl .lists cs))] (Ret [] (.bo true)) := by
  refine spec_go X_ok Tryz.f8 (by kernel_rfl) (by kernel_rfl) (by kernel_rfl) fun hb hH => ⟨rfl, ?_⟩
  show ACall _ _ _ _ _ _
  refine call_ret (awake18_spec) rfl ?_
  show ACall _ _ _ _ _ _
  refine call_ret (few18_spec g c) rfl ?_
  show ABr (bif (bif !true then true else !few11 g c) then true else decide ((cs.length : Int) > 4)) _ _
  refine ⟨fun h => ?_, fun h => ?_⟩
  · show ARet _ _ _
    exact ret_d rfl ⟨rfl, rfl⟩
  have hc : few11 g c = true ∧ cs.length ≤ 4 := by
    cases hf : few11 g c with
    | false => rw [hf] at h; exact absurd h (by simp)
    | true => rw [hf] at h; exact ⟨rfl, by have := of_decide_eq_false (show decide ((cs.length : Int) > 4) = false from h); omega⟩
  obtain ⟨hf, h4⟩ := hc
  obtain ⟨f1, f2, f3, f4, f5⟩ := few18_of hf
  show ∃ n, _
  refine ⟨0, ALoop.inv (ι := {i : Nat // i ≤ cs.length ∧ ∀ j, j < i → lightL (cs.getD j default)}) (fun q => ⟨[(2, .c (.d (.sl .lists (cs)))), (3, .c (.d (.rp (g.enc)))), (4, .c (.d (.rp (c.enc)))), (9, .int (q.1))], [], 32⟩) (fun q => cs.length - q.1) ⟨0, Nat.zero_le _, fun j hj => absurd hj (by omega)⟩ ?_ ?_⟩
  · exact ⟨[], (by repeat' first | exact .nil | refine .cons _ _ _ ?_ ?_ | exact .same | exact .c _ _ (.own _ _ rfl) | exact .c _ _ (.ptr _ _ _ _ rfl) | exact .c _ _ (.frz _ _ rfl) | exact .any _), (by exact .nil), (by rfl)⟩
  rintro ⟨i, hi, hn⟩
  have hi : i ≤ cs.length := hi
  have hn : ∀ j, j < i → lightL (cs.getD j default) := hn
  show ABr (decide ((i : Int) < (cs.length : Int))) _ _
  refine ⟨fun h => ?_, fun h => ?_⟩
  · have hlt : i < cs.length := by simpa using h
    have wi : IntKind.i64.wrap ((i : Int) + 1) = ((i + 1 : Nat) : Int) := wrapP (i := i) (by unfold maxN; omega)
    show AOb ((0 : Int) ≤ (i : Int) ∧ (i : Int) < (cs.length : Int)) _
    refine ⟨by omega, ?_⟩
    show ACall _ _ _ _ _ _
    refine call_ret (Light_spec (cs.getD i default)) rfl ?_
    show ABr (!decide (lightL (cs.getD i default))) _ _
    refine ⟨fun h => ?_, fun h => ?_⟩
    · show ARet _ _ _
      exact ret_d rfl ⟨rfl, rfl⟩
    · have hli : lightL (cs.getD i default) := by simpa using h
      have hnn : ∀ j, j < i + 1 → lightL (cs.getD j default) := fun j hj => by
        by_cases e : j = i
        · subst e; exact hli
        · exact hn j (by omega)
      show ARound _ _ _ _
      exact ⟨⟨i + 1, hlt, hnn⟩, (by dsimp only; omega), [], (by repeat' first | exact .nil | refine .cons _ _ _ ?_ ?_ | exact .int_eq wi | exact .same | exact .c _ _ (.own _ _ rfl) | exact .c _ _ (.ptr _ _ _ _ rfl) | exact .c _ _ (.frz _ _ rfl) | exact .any _), (by exact .nil), (by rfl)⟩
  have hge : i = cs.length := by simp at h; omega
  have hall : ∀ l ∈ cs, lightL l := mem_of_lt (by rw [← hge]; exact hn)
  have hfl := flats_few f1 h4 hall
  have hcm : cs.length < most := by unfold most; omega
  show ACall _ _ _ _ _ _
  refine call_ret (Whole_spec g cs hfl hcm) rfl ?_
  cases hwh : wholeH g cs with
  | false =>
    show ABr _ _ _
    refine ⟨fun _ => ?_, fun h => absurd h (by decide)⟩
    show ARet _ _ _
    exact ret_d rfl ⟨rfl, rfl⟩
  | true =>
    show ABr _ _ _
    refine ⟨fun h => absurd h (by decide), fun _ => ?_⟩
    obtain ⟨r1, r2, r3, r4, r5⟩ := sweep_one (sweep_step g c) hwh
    have st := sweep_step g c
    have kl := st.light f2
    show ACall _ _ _ _ _ _
    refine call_ret (swStep_spec g c f2 f3 f5) rfl ?_
    generalize sweepS g c = S at r1 r2 r3 r4 r5 st kl
    obtain ⟨k, d⟩ := S
    have r1 : wholeH k cs = true := r1
    have r2 : ∀ u, headE g u = 0 → u ≠ d.seek → headE k u = 0 ∧ headH k u = headH g u := r2
    have r3 : d.phase ≠ 6 ∨ c.seek ≤ d.seek := r3
    have r4 : (usedH k).length ≤ (usedH g).length := r4
    have kl : k.light := kl
    show ACall _ _ _ _ _ _
    refine call_ret (hUsed_spec g f2) rfl ?_
    show ∃ n, _
    refine ⟨0, ALoop.inv (ι := {j : Nat // j ≤ (usedH g).length}) (fun q => ⟨[(2, .c (.d (.sl .lists (cs)))), (3, .c (.d (.rp (g.enc)))), (4, .c (.d (.rp (c.enc)))), (10, .c (.d (.rp (k.enc)))), (11, .c (.d (.rp (d.enc)))), (12, .c (.d (.sl .int (usedH g)))), (13, .int (q.1))], [], 32⟩) (fun q => (usedH g).length - q.1) ⟨0, Nat.zero_le _⟩ ?_ ?_⟩
    · exact ⟨[], (by repeat' first | exact .nil | refine .cons _ _ _ ?_ ?_ | exact .same | exact .c _ _ (.own _ _ rfl) | exact .c _ _ (.ptr _ _ _ _ rfl) | exact .c _ _ (.frz _ _ rfl) | exact .any _), (by exact .nil), (by rfl)⟩
    rintro ⟨j, hj⟩
    have hj : j ≤ (usedH g).length := hj
    have hlen : (usedH g).length ≤ 512 := used_len g
    show ABr (decide ((j : Int) < ((usedH g).length : Int))) _ _
    refine ⟨fun h => ?_, fun h => ?_⟩
    · have hjl : j < (usedH g).length := by have := of_decide_eq_true h; omega
      have wj : IntKind.i64.wrap ((j : Int) + 1) = ((j + 1 : Nat) : Int) := wrapP (i := j) (by unfold maxN; omega)
      have hu : headE g (at0 (usedH g) j) = 0 := mem_usedH.1 (by rw [at0_get hjl]; exact List.getElem_mem _)
      show AOb ((0 : Int) ≤ (j : Int) ∧ (j : Int) < ((usedH g).length : Int)) _
      refine ⟨by omega, ?_⟩
      show ADCall _ _ _ _ _ _
      refine .mk _ _ (hHead_spec g (at0 (usedH g) j) f2) rfl ?_
      show AOb ((0 : Int) ≤ (j : Int) ∧ (j : Int) < ((usedH g).length : Int)) _
      refine ⟨by omega, ?_⟩
      show ADCall _ _ _ _ _ _
      refine .mk _ _ (hHead_spec k (at0 (usedH g) j) kl) rfl ?_
      show AOb ((0 : Int) ≤ (j : Int) ∧ (j : Int) < ((usedH g).length : Int)) _
      refine ⟨by omega, ?_⟩
      show ABr (!decide (at0 (usedH g) j = d.seek)) _ _
      by_cases hs : at0 (usedH g) j = d.seek
      · rw [decide_eq_true hs]
        show ABr _ _ _
        refine ⟨fun h => absurd h (by decide), fun _ => ?_⟩
        show ABr _ _ _
        refine ⟨fun h => absurd h (by decide), fun _ => ?_⟩
        show ARound _ _ _ _
        exact ⟨⟨j + 1, hjl⟩, (by dsimp only; omega), [], (by repeat' first | exact .nil | refine .cons _ _ _ ?_ ?_ | exact .int_eq wj | exact .same | exact .c _ _ (.own _ _ rfl) | exact .c _ _ (.ptr _ _ _ _ rfl) | exact .c _ _ (.frz _ _ rfl) | exact .any _), (by exact .nil), (by rfl)⟩
      · rw [decide_eq_false hs]
        obtain ⟨u1, u2⟩ := r2 _ hu hs
        show ABr _ _ _
        refine ⟨fun _ => ?_, fun h => absurd h (by decide)⟩
        show ABr (headE k (at0 (usedH g) j) != 0) _ _
        rw [show (headE k (at0 (usedH g) j) != 0) = false by rw [u1]; rfl]
        show ABr _ _ _
        refine ⟨fun h => absurd h (by decide), fun _ => ?_⟩
        show ABr (!hdB (headH g (at0 (usedH g) j)) (headH k (at0 (usedH g) j))) _ _
        refine ⟨fun h => absurd h (by rw [u2, hdB_self]; decide), fun _ => ?_⟩
        show ARound _ _ _ _
        exact ⟨⟨j + 1, hjl⟩, (by dsimp only; omega), [], (by repeat' first | exact .nil | refine .cons _ _ _ ?_ ?_ | exact .int_eq wj | exact .same | exact .c _ _ (.own _ _ rfl) | exact .c _ _ (.ptr _ _ _ _ rfl) | exact .c _ _ (.frz _ _ rfl) | exact .any _), (by exact .nil), (by rfl)⟩
    · show ACall _ _ _ _ _ _
      refine call_ret (Whole_spec k cs (may_flats (whole_may r1)) hcm) rfl ?_
      rw [r1]
      show AIf _ _ _
      refine ⟨fun _ => ?_, fun h => absurd ⟨(by show (bif true then (bif d.phase != 6 then true else decide (d.seek ≥ c.seek)) else false) = true; rcases r3 with k | k; rw [show (d.phase != 6) = true by simpa using k]; rfl; rw [decide_eq_true (show d.seek ≥ c.seek from k)]; cases (d.phase != 6) <;> rfl), trivial⟩ h⟩
      show ACall _ _ _ _ _ _
      refine call_ret (hUsed_spec k kl) rfl ?_
      show ARet _ _ _
      refine ret_bo (x := decide (((usedH k).length : Int) ≤ ((usedH g).length : Int))) (decide_eq_true (by omega)) ⟨rfl, rfl⟩
end Go.Abs

namespace Go.Abs
set_option maxRecDepth 8000

/-- What was to become of an object has become of it. -/
def Fin (g : Hp) (c : Col) (k : Hp) (u : Int) : Prop := (fateH g c u = 1 ∧ headE k u ≠ 0) ∨ (fateH g c u ≠ 1 ∧ headE k u = 0 ∧ headH k u = (if fateH g c u = 2 then agedH g u else headH g u) ∧ (fateH g c u = 2 → isDirty k u = true))
def Kept (g k : Hp) (u : Int) : Prop := headE k u = 0 ∧ headH k u = headH g u
/-- The fields of what is left are as they were. -/
structure Flds (g k : Hp) : Prop where
  conv : ∀ u, headE k u = 0 → headE g u = 0
  word : ∀ u, headE k u = 0 → ∀ f, 1 ≤ f → f < roomAt g.pages u → wordAt k (u + f) = wordAt g (u + f)
  room : ∀ u, roomAt k.pages u ≠ 0 → roomAt k.pages u = roomAt g.pages u
  wlen : k.w.length = g.w.length
  clen : k.cards.length = g.cards.length

theorem Kept.fate {g k : Hp} {c d : Col} {u : Int} (h : Kept g k u) (h0 : headE g u = 0) (h1 : d.epoch = c.epoch) (h2 : d.major = c.major) : fateH k d u = fateH g c u := by
  unfold fateH
  rw [h.1, h.2, h0, h1, h2]

theorem word_put {g : Hp} {a v u f : Int} (hm : mayH g [] = true) (ha : roomAt g.pages a ≠ 0) (hu : roomAt g.pages u ≠ 0) (hf : 1 ≤ f ∧ f < roomAt g.pages u) : wordAt (putH g a v) (u + f) = wordAt g (u + f) := by
  obtain ⟨_, _, hs, _⟩ := shapedH_of (mayH_shaped hm)
  obtain ⟨e1, _, e3⟩ := cell_end (roomAt_pos hu)
  have e1 : 16 ≤ u := e1
  have e3 : u + roomAt g.pages u ≤ 16 * ((g.pages.length : Int) + 1) := e3
  rw [wordAt_put hs (room_adr ha) ⟨by omega, by omega⟩, if_neg]
  intro e
  by_cases hne : u = a
  · omega
  · have hp := (cell_end (roomAt_pos ha)).2.1
    have hp : 0 < roomAt g.pages a := hp
    exact apart ha hu hne ⟨by omega, hf.2⟩ ⟨by omega, by omega⟩

theorem Flds.refl (g : Hp) : Flds g g := ⟨fun _ h => h, fun _ _ _ _ _ => rfl, fun _ _ => rfl, rfl, rfl⟩
theorem Flds.step {g k k' : Hp} {d d' : Col} (h : Flds g k) (s : SwStep k d k' d') {cs : List Lists} (hw : wholeH k cs = true) : Flds g k' := by
  cases s with
  | idle | pass | stay | done => exact h
  | old hm hp hmet hf h0 p =>
    refine ⟨fun u hu => h.conv u (by rw [← (put_head p u).1]; exact hu), fun u hu f f1 f2 => ?_, fun u hu => h.room u hu, by show (List.set _ _ _).length = _; rw [List.length_set]; exact h.wlen, h.clen⟩
    have hu : headE k u = 0 := by rw [← (put_head p u).1]; exact hu
    have hr := (headE_of hu).2.1
    rw [word_put hm (headE_of h0).2.1 hr ⟨f1, by rw [h.room u hr]; exact f2⟩]
    exact h.word u hu f f1 f2
  | free hm hp hmet hn hl hq hf h0 =>
    have fr := freed (whole_may hw) h0
    refine ⟨fun u hu => h.conv u ((fr.head u).1.1 hu).1, fun u hu f f1 f2 => ?_, fun u hu => ?_, fr.wlen.trans h.wlen, by rw [fr.cards]; exact h.clen⟩
    · obtain ⟨hu, hne⟩ := (fr.head u).1.1 hu
      have hr := (headE_of hu).2.1
      rw [fr.word u hne hr f (by omega) (by rw [h.room u hr]; exact f2)]
      exact h.word u hu f f1 f2
    · have e := fr.room u hu
      rw [e]
      exact h.room u (by rw [← e]; exact hu)
  | dirty hm hp hmet hn hl hq hf h0 hc => exact ⟨fun u hu => h.conv u (by rw [headE_cset] at hu; exact hu), fun u hu f f1 f2 => h.word u (by rw [headE_cset] at hu; exact hu) f f1 f2, fun u hu => h.room u hu, h.wlen, (cset_len _ _ _).trans h.clen⟩

/-- So many cells are behind an address. -/
def behind (k : Hp) (a : Int) : Nat := ((cellStarts k.pages).filter fun s => decide (a < s)).length
def potS (k : Hp) (d : Col) : Nat := 2 * behind k d.seek + (if d.met = true then 1 else 0) + 1

theorem behind_next {k : Hp} {a n : Int} (hn : n ∈ cellStarts k.pages) (hl : a < n) {S : List Int} (hs : S.Sublist (cellStarts k.pages)) : (S.filter fun s => decide (n < s)).length + 1 ≤ behind k a := by
  unfold behind
  have h1 : (S.filter fun s => decide (n < s)).length ≤ ((cellStarts k.pages).filter fun s => decide (n < s)).length := (hs.filter _).length_le
  have h2 : ((cellStarts k.pages).filter fun s => decide (n < s)).length + 1 ≤ ((cellStarts k.pages).filter fun s => decide (a < s)).length := by
    have hsub : (((cellStarts k.pages).filter fun s => decide (n < s)).length) + ((cellStarts k.pages).filter fun s => decide (s = n)).length ≤ ((cellStarts k.pages).filter fun s => decide (a < s)).length := by
      generalize cellStarts k.pages = L
      induction L with
      | nil => simp
      | cons x r ih =>
        simp only [List.filter_cons]
        by_cases c1 : n < x
        · rw [decide_eq_true c1, decide_eq_false (show ¬ x = n by omega), decide_eq_true (show a < x by omega)]
          simp only [if_true, List.length_cons]
          simp only [Bool.false_eq_true, if_false]
          omega
        · by_cases c2 : x = n
          · rw [decide_eq_false c1, decide_eq_true c2, decide_eq_true (show a < x by omega)]
            simp only [if_true, List.length_cons]
            simp only [Bool.false_eq_true, if_false]
            omega
          · rw [decide_eq_false c1, decide_eq_false c2]
            simp only [Bool.false_eq_true, if_false]
            split
            · rw [List.length_cons]; omega
            · omega
    have : 0 < ((cellStarts k.pages).filter fun s => decide (s = n)).length := List.length_pos_of_mem (List.mem_filter.2 ⟨hn, decide_eq_true rfl⟩)
    omega
  omega

/-- A sweep under way. -/
structure SwAt (g : Hp) (c : Col) (cs : List Lists) (k : Hp) (d : Col) : Prop where
  ph : d.phase = 6
  ep : d.epoch = c.epoch
  mj : d.major = c.major
  whole : wholeH k cs = true
  flds : Flds g k
  lo : ∀ u, headE g u = 0 → (u < d.seek ∨ (u = d.seek ∧ d.met = false)) → Fin g c k u
  mid : d.met = true → headE g d.seek = 0 ∧ fateH g c d.seek = 2 ∧ Kept g k d.seek ∧ isDirty k d.seek = true
  hi : ∀ u, headE g u = 0 → d.seek < u → Kept g k u
/-- A sweep that is over. -/
structure SwOver (g : Hp) (c : Col) (cs : List Lists) (k : Hp) (d : Col) : Prop where
  ph : d.phase = 0
  ep : d.epoch = c.epoch
  wk : d.work = []
  whole : wholeH k cs = true
  flds : Flds g k
  fin : ∀ u, headE g u = 0 → Fin g c k u

theorem Fin.put {g k : Hp} {c : Col} {a u : Int} {x : Hd} (h : Fin g c k u) (p : PutOk k a x) (hne : u ≠ a) : Fin g c (putH k a x.word) u := by
  obtain ⟨e1, e2⟩ := put_head p u
  rw [if_neg hne] at e2
  rcases h with ⟨h1, h2⟩ | ⟨h1, h2, h3, h4⟩
  · exact .inl ⟨h1, by rw [e1]; exact h2⟩
  · exact .inr ⟨h1, by rw [e1]; exact h2, by rw [e2]; exact h3, fun q => by rw [isDirty_put p]; exact h4 q⟩
theorem Fin.freed {g k : Hp} {c : Col} {a u : Int} {cs : List Lists} (h : Fin g c k u) (f : Freed k (freeH k a) a cs) (hne : u ≠ a) : Fin g c (freeH k a) u := by
  obtain ⟨e1, e2⟩ := f.head u
  rcases h with ⟨h1, h2⟩ | ⟨h1, h2, h3, h4⟩
  · exact .inl ⟨h1, fun q => h2 (e1.1 q).1⟩
  · have h0 := e1.2 ⟨h2, hne⟩
    refine .inr ⟨h1, h0, by rw [e2 h0]; exact h3, fun q => ?_⟩
    have := h4 q
    unfold isDirty cardOf cardE at this ⊢
    rw [may_no f.may, f.wlen, f.cards]
    rw [(headE_of h2).1] at this
    exact this
theorem Fin.cset {g k : Hp} {c : Col} {n u : Int} (h : Fin g c k u) : Fin g c (cset k n true) u := by
  rcases h with ⟨h1, h2⟩ | ⟨h1, h2, h3, h4⟩
  · exact .inl ⟨h1, by rw [headE_cset]; exact h2⟩
  · refine .inr ⟨h1, by rw [headE_cset]; exact h2, by rw [headH_cset]; exact h3, fun q => ?_⟩
    have := h4 q
    have hc : cardE k u = 0 := by unfold isDirty at this; rw [Bool.and_eq_true, decide_eq_true_eq] at this; exact this.1
    exact isDirty_cset hc n this
theorem Kept.put {g k : Hp} {a u : Int} {x : Hd} (h : Kept g k u) (p : PutOk k a x) (hne : u ≠ a) : Kept g (putH k a x.word) u := by
  obtain ⟨e1, e2⟩ := put_head p u
  rw [if_neg hne] at e2
  exact ⟨by rw [e1]; exact h.1, by rw [e2]; exact h.2⟩
theorem Kept.freed {g k : Hp} {a u : Int} {cs : List Lists} (h : Kept g k u) (f : Freed k (freeH k a) a cs) (hne : u ≠ a) : Kept g (freeH k a) u := by
  obtain ⟨e1, e2⟩ := f.head u
  have h0 := e1.2 ⟨h.1, hne⟩
  exact ⟨h0, (e2 h0).trans h.2⟩
theorem Kept.cset {g k : Hp} {n u : Int} (h : Kept g k u) : Kept g (cset k n true) u := ⟨by rw [headE_cset]; exact h.1, by rw [headH_cset]; exact h.2⟩

theorem SwAt.step {g k k' : Hp} {c d d' : Col} {cs : List Lists} (h : SwAt g c cs k d) (s : SwStep k d k' d') : (SwAt g c cs k' d' ∧ potS k' d' + 1 ≤ potS k d) ∨ SwOver g c cs k' d' := by
  have fl := h.flds.step s h.whole
  have hmay := whole_may h.whole
  have wh := (sweep_one s h.whole).1
  cases s with
  | idle hn => exact absurd ⟨may_no hmay, h.ph⟩ hn
  | pass hm hp hmet hf =>
    obtain ⟨m1, m2, m3, m4⟩ := h.mid hmet
    exact absurd ((m3.fate m1 h.ep h.mj).trans m2) hf
  | old hm hp hmet hf h0 p =>
    obtain ⟨m1, m2, m3, m4⟩ := h.mid hmet
    refine .inl ⟨⟨h.ph, h.ep, h.mj, wh, fl, fun u hu hlt => ?_, fun q => Bool.noConfusion q, fun u hu hlt => ?_⟩, ?_⟩
    · have hlt : u < d.seek ∨ (u = d.seek ∧ _) := hlt
      by_cases e : u = d.seek
      · subst e
        obtain ⟨e1, e2⟩ := put_head p d.seek
        rw [if_pos rfl] at e2
        refine .inr ⟨by omega, by rw [e1]; exact m3.1, ?_, fun _ => by rw [isDirty_put p]; exact m4⟩
        rw [e2, if_pos m2, agedH, agedH, m3.2]
      · exact (h.lo u hu (.inl (by omega))).put p e
    · have hlt : d.seek < u := hlt
      exact (h.hi u hu hlt).put p (by omega)
    · unfold potS
      rw [hmet]
      show 2 * behind k d.seek + 0 + 1 + 1 ≤ _
      simp
  | free hm hp hmet hn hl hq hf h0 =>
    have f := freed hmay h0
    refine .inl ⟨⟨h.ph, h.ep, h.mj, wh, fl, fun u hu hlt => ?_, fun q => Bool.noConfusion (hmet.symm.trans q), fun u hu hlt => ?_⟩, ?_⟩
    · have hlt : u < nextS k.pages d.seek ∨ (u = nextS k.pages d.seek ∧ _) := hlt
      by_cases e : u = nextS k.pages d.seek
      · have kp := h.hi u hu (by omega)
        refine .inl ⟨?_, fun q => ((f.head u).1.1 q).2 e⟩
        rw [← kp.fate hu h.ep h.mj, e]; exact hf
      · by_cases e2 : u ≤ d.seek
        · exact (h.lo u hu (by by_cases e3 : u = d.seek; exact .inr ⟨e3, hmet⟩; exact .inl (by omega))).freed f e
        · have kp := h.hi u hu (by omega)
          have := hq u (mem_starts.2 (headE_of kp.1).2.1) (by omega)
          omega
    · have hlt : nextS k.pages d.seek < u := hlt
      exact (h.hi u hu (by omega)).freed f (by omega)
    · have := behind_next hn hl f.starts
      unfold potS
      rw [hmet]
      show 2 * behind (freeH k (nextS k.pages d.seek)) (nextS k.pages d.seek) + 0 + 1 + 1 ≤ 2 * behind k d.seek + 0 + 1
      unfold behind at this ⊢
      omega
  | dirty hm hp hmet hn hl hq hf h0 hc =>
    have hg := h.flds.conv _ h0
    have kp := h.hi _ hg hl
    refine .inl ⟨⟨h.ph, h.ep, h.mj, wh, fl, fun u hu hlt => ?_, fun _ => ⟨hg, ?_, kp.cset, dirty_cset hc true⟩, fun u hu hlt => ?_⟩, ?_⟩
    · have hlt : u < nextS k.pages d.seek ∨ (u = nextS k.pages d.seek ∧ true = false) := hlt
      have hlt : u < nextS k.pages d.seek := hlt.resolve_right fun q => Bool.noConfusion q.2
      by_cases e2 : u ≤ d.seek
      · exact (h.lo u hu (by by_cases e3 : u = d.seek; exact .inr ⟨e3, hmet⟩; exact .inl (by omega))).cset
      · have kp := h.hi u hu (by omega)
        have := hq u (mem_starts.2 (headE_of kp.1).2.1) (by omega)
        omega
    · show fateH g c (nextS k.pages d.seek) = 2
      rw [← kp.fate hg h.ep h.mj]; exact hf
    · have hlt : nextS k.pages d.seek < u := hlt
      exact (h.hi u hu (by omega)).cset
    · have := behind_next hn hl (List.Sublist.refl _)
      unfold potS
      rw [hmet]
      show 2 * behind (cset k _ true) (nextS k.pages d.seek) + 1 + 1 + 1 ≤ _
      simp only [Bool.false_eq_true, if_false]
      unfold behind at this ⊢
      show 2 * ((cellStarts k.pages).filter _).length + 1 + 1 + 1 ≤ _
      omega
  | stay hm hp hmet hn hl hq hf =>
    refine .inl ⟨⟨h.ph, h.ep, h.mj, wh, fl, fun u hu hlt => ?_, fun q => Bool.noConfusion (hmet.symm.trans q), fun u hu hlt => ?_⟩, ?_⟩
    · have hlt : u < nextS k.pages d.seek ∨ (u = nextS k.pages d.seek ∧ _) := hlt
      by_cases e2 : u ≤ d.seek
      · exact h.lo u hu (by by_cases e3 : u = d.seek; exact .inr ⟨e3, hmet⟩; exact .inl (by omega))
      · have kp := h.hi u hu (by omega)
        have hge := hq u (mem_starts.2 (headE_of kp.1).2.1) (by omega)
        have e : u = nextS k.pages d.seek := by omega
        have hz : fateH g c u = 0 := by rw [← kp.fate hu h.ep h.mj, e]; exact hf
        exact .inr ⟨by omega, kp.1, by rw [if_neg (by omega)]; exact kp.2, fun q => by omega⟩
    · have hlt : nextS k.pages d.seek < u := hlt
      exact h.hi u hu (by omega)
    · have := behind_next hn hl (List.Sublist.refl _)
      unfold potS
      rw [hmet]
      show 2 * behind k (nextS k.pages d.seek) + 0 + 1 + 1 ≤ 2 * behind k d.seek + 0 + 1
      unfold behind at this ⊢
      omega
  | done hm hp hmet hn =>
    refine .inr ⟨rfl, h.ep, rfl, h.whole, h.flds, fun u hu => ?_⟩
    by_cases e2 : u ≤ d.seek
    · exact h.lo u hu (by by_cases e3 : u = d.seek; exact .inr ⟨e3, hmet⟩; exact .inl (by omega))
    · have kp := h.hi u hu (by omega)
      have := hn u (mem_starts.2 (headE_of kp.1).2.1)
      omega

theorem SwOver.step {g k k' : Hp} {c d d' : Col} {cs : List Lists} (h : SwOver g c cs k d) (s : SwStep k d k' d') : SwOver g c cs k' d' := by
  have hp := h.ph
  cases s with
  | idle => exact h
  | pass _ q => omega
  | old _ q => omega
  | free _ q => omega
  | dirty _ q => omega
  | stay _ q => omega
  | done _ q => omega

theorem sw_run {g : Hp} {c : Col} {cs : List Lists} (hw : wholeH g cs = true) (hp : c.phase = 6) (h0 : c.seek = 0) (hm : c.met = false) : ∀ n, (SwAt g c cs (swN g c n).1 (swN g c n).2 ∧ n + potS (swN g c n).1 (swN g c n).2 ≤ g.w.length + 1) ∨ SwOver g c cs (swN g c n).1 (swN g c n).2
  | 0 => by
    refine .inl ⟨⟨hp, rfl, rfl, hw, .refl g, fun u hu hlt => ?_, fun q => Bool.noConfusion (hm.symm.trans q), fun u hu _ => ⟨hu, rfl⟩⟩, ?_⟩
    · have hlt : u < c.seek ∨ (u = c.seek ∧ _) := hlt
      have := (head_room hu).2.1
      omega
    · show 0 + potS g c ≤ _
      unfold potS behind
      rw [hm]
      have h1 : ((cellStarts g.pages).filter fun s => decide (c.seek < s)).length ≤ 8 * g.pages.length := by
        refine Nat.le_trans (List.length_filter_le _ _) ?_
        unfold cellStarts cellsAll
        rw [List.length_map]
        split
        · exact cellsFrom_len g.pages _ 0 rfl
        · exact Nat.zero_le _
      obtain ⟨_, _, hs, _⟩ := shapedH_of (mayH_shaped (whole_may hw))
      simp only [Bool.false_eq_true, if_false]
      omega
  | n + 1 => by
    have s := sweep_step (swN g c n).1 (swN g c n).2
    rcases sw_run hw hp h0 hm n with ⟨h, hn⟩ | h
    · rcases h.step s with ⟨h', hp'⟩ | h'
      · refine .inl ⟨h', ?_⟩
        show n + 1 + potS (sweepS (swN g c n).1 (swN g c n).2).1 (sweepS (swN g c n).1 (swN g c n).2).2 ≤ _
        omega
      · exact .inr h'
    · exact .inr (h.step s)
end Go.Abs
