/- Walks: a sweep cleans no card. -/
import Derived.Test.YtpkngagppfoccaaGreatDoorWSweepA
import Derived.Test.YtpkngagppfoccaaGreatDoorWCardsKeep
import Derived.Test.YtpkngagppfoccaaGreatDoorWCardsTwice
set_option linter.all false
set_option linter.unusedVariables false
set_option linter.unusedSimpArgs false
namespace Go.Abs
open Go.Proofs Go.Proofs.YtpkngagppfoccaaGreatDoor
set_option maxRecDepth 8000

theorem Freed.head {g k : Hp} {a : Int} {cs : List Lists} (f : Freed g k a cs) (u : Int) : (headE k u = 0 ↔ headE g u = 0 ∧ u ≠ a) ∧ (headE k u = 0 → headH k u = headH g u) := by
  have h1 : headE k u = 0 ↔ headE g u = 0 ∧ u ≠ a := by
    rw [← mem_usedH, ← mem_usedH, f.used, List.mem_filter, decide_eq_true_eq]
  refine ⟨h1, fun h => ?_⟩
  obtain ⟨h2, h3⟩ := h1.1 h
  have hr := (headE_of h2).2.1
  have hp := (head_fits h2).2
  have := f.word u h3 hr 0 (Int.le_refl _) (by omega)
  rw [Int.add_zero] at this
  rw [headH_yes h, headH_yes h2, this]

theorem isDirty_put {g : Hp} {a : Int} {x : Hd} (h : PutOk g a x) (u : Int) : isDirty (putH g a x.word) u = isDirty g u := by
  have e : cardE (putH g a x.word) u = cardE g u := by
    unfold cardE
    rw [may_put h]
    show (bif _ then (bif decide (16 ≤ u ∧ u < 16 + ((g.w.set (a - 16).toNat x.word).length : Int)) then _ else _) else _) = _
    rw [List.length_set]
  have e2 : cardOf (putH g a x.word) u = cardOf g u := by unfold cardOf; rw [e]
  unfold isDirty
  rw [e, e2]
  rfl

theorem sweep_cards {g k : Hp} {c d : Col} (s : SwStep g c k d) (hm : mayH g [] = true) (hmet : c.met = true → isDirty g c.seek = true) :
    k.cards.length = g.cards.length ∧ (d.met = true → isDirty k d.seek = true) ∧ (∀ i : Nat, g.cards.getD i false = true → k.cards.getD i false = true) ∧ ∀ u, headE k u = 0 → headE g u = 0 ∧ ((headH k u).old ≠ (headH g u).old → isDirty k u = true) := by
  cases s with
  | idle => exact ⟨rfl, hmet, fun _ h => h, fun u h => ⟨h, fun k => absurd rfl k⟩⟩
  | pass => exact ⟨rfl, fun h => Bool.noConfusion h, fun _ h => h, fun u h => ⟨h, fun k => absurd rfl k⟩⟩
  | done => exact ⟨rfl, fun h => Bool.noConfusion h, fun _ h => h, fun u h => ⟨h, fun k => absurd rfl k⟩⟩
  | stay _ _ hmet' => exact ⟨rfl, fun h => Bool.noConfusion (hmet'.symm.trans h), fun _ h => h, fun u h => ⟨h, fun k => absurd rfl k⟩⟩
  | old hm hp hmet' hf h0 p =>
    refine ⟨rfl, fun h => Bool.noConfusion h, fun _ h => h, fun u h => ?_⟩
    obtain ⟨e1, e2⟩ := put_head p u
    refine ⟨by rw [← e1]; exact h, fun hne => ?_⟩
    rw [e2] at hne
    split at hne
    · rename_i e
      rw [isDirty_put p, e]
      exact hmet hmet'
    · exact absurd rfl hne
  | free hm hp hmet' hn hl hq hf h0 =>
    have f := freed hm h0
    refine ⟨by rw [f.cards], fun h => Bool.noConfusion (hmet'.symm.trans h), fun i h => by rw [f.cards]; exact h, fun u h => ?_⟩
    obtain ⟨e1, e2⟩ := f.head u
    exact ⟨(e1.1 h).1, fun hne => absurd (congrArg Hd.old (e2 h)) hne⟩
  | dirty hm hp hmet' hn hl hq hf h0 hc =>
    refine ⟨cset_len _ _ _, fun _ => dirty_cset hc true, fun i h => ?_, fun u h => ?_⟩
    · have := cset_get g _ true i (card_in hc)
      have this : (cset g (cardOf g (nextS g.pages c.seek)) true).cards.getD i false = _ := this
      rw [this]
      split
      · rfl
      · exact h
    · rw [headE_cset] at h
      rw [headH_cset]
      exact ⟨h, fun k => absurd rfl k⟩

theorem used_len (k : Hp) : (usedH k).length ≤ 512 := by
  unfold usedH
  cases mayH k [] with
  | false => exact Nat.zero_le _
  | true =>
    refine Nat.le_trans (List.length_filter_le _ _) ?_
    unfold cellStarts
    rw [List.length_map]
    exact cellsAll_len _
theorem used_lt {k : Hp} {u : Int} (h : headE k u = 0) : u < 9223372036854775808 := by
  obtain ⟨hm, hr, _⟩ := headE_of h
  obtain ⟨_, j, hj⟩ := cellOf_mem (roomAt_pos hr)
  have h1 : u < 16 * ((j : Int) + 2) := hj.hi
  have h2 := hj.lt
  obtain ⟨_, _, _, _, _, h64⟩ := shapedH_of (mayH_shaped hm)
  omega
set_option maxHeartbeats 4000000 in
theorem SweepCards_spec (g : Hp) (hw : ∀ x ∈ g.w, I64 x) (c : Col) (hcf : I64 c.phase ∧ I64 c.epoch ∧ I64 c.at_ ∧ I64 c.field_ ∧ I64 c.seek ∧ I64 c.card) : Spec X 6 [] [g.tv, c.tv] (Ret [] (.bo true)) := by
  refine spec_go X_ok Tryz.f6 (by kernel_rfl) (by kernel_rfl) (by kernel_rfl) fun hb hH => ⟨rfl, ?_⟩
  show ACall _ _ _ _ _ _
  refine call_ret (awake18_spec) rfl ?_
  show ACall _ _ _ _ _ _
  refine call_ret (few18_spec g c) rfl ?_
  cases hf : few11 g c with
  | false =>
    show AIf _ _ _
    refine ⟨fun h => absurd h.1 (by simp), fun _ => ?_⟩
    show AOb _ _
    refine ⟨by simp, ?_⟩
    show AIf _ _ _
    refine ⟨fun h => absurd h.2.1 (by simp), fun _ => ?_⟩
    show AOb _ _
    refine ⟨by exact fun h => absurd h.1 (by simp), ?_⟩
    show ABr _ _ _
    refine ⟨fun _ => ?_, fun h => absurd h (by simp)⟩
    show ARet _ _ _
    exact ret_d rfl ⟨rfl, rfl⟩
  | true =>
    obtain ⟨f1, f2, f3, f4, f5⟩ := few18_of hf
    show AIf _ _ _
    refine ⟨fun _ => ?_, fun h => absurd ⟨(by rfl), trivial⟩ h⟩
    show ACall _ _ _ _ _ _
    refine call_ret (hHMay0_spec g f2) rfl ?_
    cases hm : mayH g [] with
    | false =>
      show AIf _ _ _
      refine ⟨fun h => absurd h.2.1 (by simp), fun _ => ?_⟩
      show AOb _ _
      refine ⟨by exact fun h => absurd h.1 (by simp), ?_⟩
      show ABr _ _ _
      refine ⟨fun _ => ?_, fun h => absurd h (by simp)⟩
      show ARet _ _ _
      exact ret_d rfl ⟨rfl, rfl⟩
    | true =>
      show AIf (c.met = true ∧ (bif (bif !true then true else !true) then true else !true) = false ∧ True) _ _
      by_cases hmet : c.met = true
      · refine ⟨fun _ => ?_, fun h => absurd ⟨hmet, rfl, trivial⟩ h⟩
        show ACall _ _ _ _ _ _
        refine call_ret (Is_spec g c.seek f2 (by have := hcf.2.2.2.2.1.2; omega)) rfl ?_
        show ABr (bif !true then true else !isDirty g c.seek) _ _
        cases hdy : isDirty g c.seek with
        | false =>
          show ABr _ _ _
          refine ⟨fun _ => ?_, fun h => absurd h (by decide)⟩
          show ARet _ _ _
          exact ret_d rfl ⟨rfl, rfl⟩
        | true =>
          show ABr _ _ _
          refine ⟨fun h => absurd h (by decide), fun _ => ?_⟩
          obtain ⟨r1, r2, r3, r4⟩ := sweep_cards (sweep_step g c) hm (fun _ => hdy)
          have st := sweep_step g c
          have kl := st.light f2
          have ks := st.small f3
          have hC20 : g.cards.length ≤ 20 := by have := of_decide_eq_true f1; omega
          show ACall _ _ _ _ _ _
          refine call_ret (swStep_spec g c f2 f3 f5) rfl ?_
          generalize sweepS g c = S at r1 r2 r3 r4 st kl ks
          obtain ⟨k, d⟩ := S
          have d64 : d.seek < 9223372036854775808 := by
            have hc := hcf.2.2.2.2.1.2
            have hn := next_lt (l := g.pages) (a := c.seek)
            have st : SwStep g c k d := st
            cases st <;> first | exact hc | exact hn | exact (by decide : (0:Int) < 9223372036854775808)
          have r1 : k.cards.length = g.cards.length := r1
          have r2 : d.met = true → isDirty k d.seek = true := r2
          have kl : k.light := kl
          show AIf (d.met = true ∧ (!decide ((k.cards.length : Int) = (g.cards.length : Int))) = false ∧ True) _ _
          by_cases hdm : d.met = true
          · refine ⟨fun _ => ?_, fun h => absurd ⟨hdm, by rw [r1]; simp, trivial⟩ h⟩
            show ACall _ _ _ _ _ _
            refine call_ret (Is_spec k d.seek kl d64) rfl ?_
            show ABr (bif !decide ((k.cards.length : Int) = (g.cards.length : Int)) then true else !isDirty k d.seek) _ _
            rw [r2 hdm]
            refine ⟨fun h => absurd h (by rw [r1]; simp), fun _ => ?_⟩
            show ∃ n, _
            refine ⟨0, ALoop.inv (ι := {i : Nat // i ≤ g.cards.length}) (fun q => ⟨[(2, .c (.d (.rp (g.enc)))), (7, .c (.d (.rp (k.enc)))), (9, .int (q.1))], [], 32⟩) (fun q => g.cards.length - q.1) ⟨0, Nat.zero_le _⟩ ?_ ?_⟩
            · exact ⟨[], (by repeat' first | exact .nil | refine .cons _ _ _ ?_ ?_ | exact .same | exact .c _ _ (.own _ _ rfl) | exact .c _ _ (.ptr _ _ _ _ rfl) | exact .c _ _ (.frz _ _ rfl) | exact .any _), (by exact .nil), (by rfl)⟩
            rintro ⟨i, hi⟩
            show ABr (decide ((i : Int) < (g.cards.length : Int))) _ _
            refine ⟨fun h => ?_, fun h => ?_⟩
            · have hil : i < g.cards.length := by have := of_decide_eq_true h; omega
              have wi : IntKind.i64.wrap ((i : Int) + 1) = ((i + 1 : Nat) : Int) := wrapP (i := i) (by unfold maxN; omega)
              show AOb ((0 : Int) ≤ (i : Int) ∧ (i : Int) < (g.cards.length : Int)) _
              refine ⟨by omega, ?_⟩
              show AOb _ _
              refine ⟨fun _ => (show (0 : Int) ≤ (i : Int) ∧ (i : Int) < (k.cards.length : Int) by omega), ?_⟩
              show ABr (bif g.cards.getD i false then !k.cards.getD i false else false) _ _
              have hq : (bif g.cards.getD i false then !k.cards.getD i false else false) = false := by
                cases hc : g.cards.getD i false with
                | false => rfl
                | true => rw [r3 i hc]; rfl
              refine ⟨fun h => absurd (hq.symm.trans h) (by decide), fun _ => ?_⟩
              show ARound _ _ _ _
              exact ⟨⟨i + 1, hil⟩, (by dsimp only; omega), [], (by repeat' first | exact .nil | refine .cons _ _ _ ?_ ?_ | exact .int_eq wi | exact .same | exact .c _ _ (.own _ _ rfl) | exact .c _ _ (.ptr _ _ _ _ rfl) | exact .c _ _ (.frz _ _ rfl) | exact .any _), (by exact .nil), (by rfl)⟩
            · show ACall _ _ _ _ _ _
              refine call_ret (hUsed_spec k kl) rfl ?_
              show ∃ n, _
              refine ⟨0, ALoop.inv (ι := {j : Nat // j ≤ (usedH k).length}) (fun q => ⟨[(2, .c (.d (.rp (g.enc)))), (7, .c (.d (.rp (k.enc)))), (10, .c (.d (.sl .int (usedH k)))), (11, .int (q.1))], [], 32⟩) (fun q => (usedH k).length - q.1) ⟨0, Nat.zero_le _⟩ ?_ ?_⟩
              · exact ⟨[], (by repeat' first | exact .nil | refine .cons _ _ _ ?_ ?_ | exact .same | exact .c _ _ (.own _ _ rfl) | exact .c _ _ (.ptr _ _ _ _ rfl) | exact .c _ _ (.frz _ _ rfl) | exact .any _), (by exact .nil), (by rfl)⟩
              rintro ⟨j, hj⟩
              have hj : j ≤ (usedH k).length := hj
              show ABr (decide ((j : Int) < ((usedH k).length : Int))) _ _
              refine ⟨fun h => ?_, fun h => ?_⟩
              · have hjl : j < (usedH k).length := by have := of_decide_eq_true h; omega
                have hlen : (usedH k).length ≤ 512 := used_len k
                have wj : IntKind.i64.wrap ((j : Int) + 1) = ((j + 1 : Nat) : Int) := wrapP (i := j) (by unfold maxN; omega)
                have hu : headE k (at0 (usedH k) j) = 0 := mem_usedH.1 (by rw [at0_get hjl]; exact List.getElem_mem _)
                obtain ⟨u1, u2⟩ := r4 _ hu
                have u64 : at0 (usedH k) j < 9223372036854775808 := used_lt hu
                show AOb ((0 : Int) ≤ (j : Int) ∧ (j : Int) < ((usedH k).length : Int)) _
                refine ⟨by omega, ?_⟩
                show ADCall _ _ _ _ _ _
                refine .mk _ _ (hHead_spec g (at0 (usedH k) j) f2) rfl ?_
                show AOb ((0 : Int) ≤ (j : Int) ∧ (j : Int) < ((usedH k).length : Int)) _
                refine ⟨by omega, ?_⟩
                show ADCall _ _ _ _ _ _
                refine .mk _ _ (hHead_spec k (at0 (usedH k) j) kl) rfl ?_
                show ABr (headE g (at0 (usedH k) j) != 0) _ _
                rw [show (headE g (at0 (usedH k) j) != 0) = false by rw [u1]; rfl]
                show ABr _ _ _
                refine ⟨fun h => absurd h (by decide), fun _ => ?_⟩
                show ABr ((headH k (at0 (usedH k) j)).old != (headH g (at0 (usedH k) j)).old) _ _
                refine ⟨fun hne => ?_, fun hne => ?_⟩
                · show AOb ((0 : Int) ≤ (j : Int) ∧ (j : Int) < ((usedH k).length : Int)) _
                  refine ⟨by omega, ?_⟩
                  show ADCall _ _ _ _ _ _
                  refine .mk _ _ (Is_spec k (at0 (usedH k) j) kl u64) rfl ?_
                  rw [u2 (by simpa using hne)]
                  show ABr _ _ _
                  refine ⟨fun h => absurd h (by decide), fun _ => ?_⟩
                  show ARound _ _ _ _
                  exact ⟨⟨j + 1, hjl⟩, (by dsimp only; omega), [], (by repeat' first | exact .nil | refine .cons _ _ _ ?_ ?_ | exact .int_eq wj | exact .same | exact .c _ _ (.own _ _ rfl) | exact .c _ _ (.ptr _ _ _ _ rfl) | exact .c _ _ (.frz _ _ rfl) | exact .any _), (by exact .nil), (by rfl)⟩
                · show ABr _ _ _
                  refine ⟨fun h => absurd h (by decide), fun _ => ?_⟩
                  show ARound _ _ _ _
                  exact ⟨⟨j + 1, hjl⟩, (by dsimp only; omega), [], (by repeat' first | exact .nil | refine .cons _ _ _ ?_ ?_ | exact .int_eq wj | exact .same | exact .c _ _ (.own _ _ rfl) | exact .c _ _ (.ptr _ _ _ _ rfl) | exact .c _ _ (.frz _ _ rfl) | exact .any _), (by exact .nil), (by rfl)⟩
              · show ARet _ _ _
                exact ret_d rfl ⟨rfl, rfl⟩
          · refine ⟨fun h => absurd h.1 hdm, fun _ => ?_⟩
            show AOb _ _
            refine ⟨by exact fun _ => by simpa using hdm, ?_⟩
            show ABr (bif !decide ((k.cards.length : Int) = (g.cards.length : Int)) then true else false) _ _
            refine ⟨fun h => absurd h (by rw [r1]; simp), fun _ => ?_⟩
            show ∃ n, _
            refine ⟨0, ALoop.inv (ι := {i : Nat // i ≤ g.cards.length}) (fun q => ⟨[(2, .c (.d (.rp (g.enc)))), (7, .c (.d (.rp (k.enc)))), (9, .int (q.1))], [], 32⟩) (fun q => g.cards.length - q.1) ⟨0, Nat.zero_le _⟩ ?_ ?_⟩
            · exact ⟨[], (by repeat' first | exact .nil | refine .cons _ _ _ ?_ ?_ | exact .same | exact .c _ _ (.own _ _ rfl) | exact .c _ _ (.ptr _ _ _ _ rfl) | exact .c _ _ (.frz _ _ rfl) | exact .any _), (by exact .nil), (by rfl)⟩
            rintro ⟨i, hi⟩
            show ABr (decide ((i : Int) < (g.cards.length : Int))) _ _
            refine ⟨fun h => ?_, fun h => ?_⟩
            · have hil : i < g.cards.length := by have := of_decide_eq_true h; omega
              have wi : IntKind.i64.wrap ((i : Int) + 1) = ((i + 1 : Nat) : Int) := wrapP (i := i) (by unfold maxN; omega)
              show AOb ((0 : Int) ≤ (i : Int) ∧ (i : Int) < (g.cards.length : Int)) _
              refine ⟨by omega, ?_⟩
              show AOb _ _
              refine ⟨fun _ => (show (0 : Int) ≤ (i : Int) ∧ (i : Int) < (k.cards.length : Int) by omega), ?_⟩
              show ABr (bif g.cards.getD i false then !k.cards.getD i false else false) _ _
              have hq : (bif g.cards.getD i false then !k.cards.getD i false else false) = false := by
                cases hc : g.cards.getD i false with
                | false => rfl
                | true => rw [r3 i hc]; rfl
              refine ⟨fun h => absurd (hq.symm.trans h) (by decide), fun _ => ?_⟩
              show ARound _ _ _ _
              exact ⟨⟨i + 1, hil⟩, (by dsimp only; omega), [], (by repeat' first | exact .nil | refine .cons _ _ _ ?_ ?_ | exact .int_eq wi | exact .same | exact .c _ _ (.own _ _ rfl) | exact .c _ _ (.ptr _ _ _ _ rfl) | exact .c _ _ (.frz _ _ rfl) | exact .any _), (by exact .nil), (by rfl)⟩
            · show ACall _ _ _ _ _ _
              refine call_ret (hUsed_spec k kl) rfl ?_
              show ∃ n, _
              refine ⟨0, ALoop.inv (ι := {j : Nat // j ≤ (usedH k).length}) (fun q => ⟨[(2, .c (.d (.rp (g.enc)))), (7, .c (.d (.rp (k.enc)))), (10, .c (.d (.sl .int (usedH k)))), (11, .int (q.1))], [], 32⟩) (fun q => (usedH k).length - q.1) ⟨0, Nat.zero_le _⟩ ?_ ?_⟩
              · exact ⟨[], (by repeat' first | exact .nil | refine .cons _ _ _ ?_ ?_ | exact .same | exact .c _ _ (.own _ _ rfl) | exact .c _ _ (.ptr _ _ _ _ rfl) | exact .c _ _ (.frz _ _ rfl) | exact .any _), (by exact .nil), (by rfl)⟩
              rintro ⟨j, hj⟩
              have hj : j ≤ (usedH k).length := hj
              show ABr (decide ((j : Int) < ((usedH k).length : Int))) _ _
              refine ⟨fun h => ?_, fun h => ?_⟩
              · have hjl : j < (usedH k).length := by have := of_decide_eq_true h; omega
                have hlen : (usedH k).length ≤ 512 := used_len k
                have wj : IntKind.i64.wrap ((j : Int) + 1) = ((j + 1 : Nat) : Int) := wrapP (i := j) (by unfold maxN; omega)
                have hu : headE k (at0 (usedH k) j) = 0 := mem_usedH.1 (by rw [at0_get hjl]; exact List.getElem_mem _)
                obtain ⟨u1, u2⟩ := r4 _ hu
                have u64 : at0 (usedH k) j < 9223372036854775808 := used_lt hu
                show AOb ((0 : Int) ≤ (j : Int) ∧ (j : Int) < ((usedH k).length : Int)) _
                refine ⟨by omega, ?_⟩
                show ADCall _ _ _ _ _ _
                refine .mk _ _ (hHead_spec g (at0 (usedH k) j) f2) rfl ?_
                show AOb ((0 : Int) ≤ (j : Int) ∧ (j : Int) < ((usedH k).length : Int)) _
                refine ⟨by omega, ?_⟩
                show ADCall _ _ _ _ _ _
                refine .mk _ _ (hHead_spec k (at0 (usedH k) j) kl) rfl ?_
                show ABr (headE g (at0 (usedH k) j) != 0) _ _
                rw [show (headE g (at0 (usedH k) j) != 0) = false by rw [u1]; rfl]
                show ABr _ _ _
                refine ⟨fun h => absurd h (by decide), fun _ => ?_⟩
                show ABr ((headH k (at0 (usedH k) j)).old != (headH g (at0 (usedH k) j)).old) _ _
                refine ⟨fun hne => ?_, fun hne => ?_⟩
                · show AOb ((0 : Int) ≤ (j : Int) ∧ (j : Int) < ((usedH k).length : Int)) _
                  refine ⟨by omega, ?_⟩
                  show ADCall _ _ _ _ _ _
                  refine .mk _ _ (Is_spec k (at0 (usedH k) j) kl u64) rfl ?_
                  rw [u2 (by simpa using hne)]
                  show ABr _ _ _
                  refine ⟨fun h => absurd h (by decide), fun _ => ?_⟩
                  show ARound _ _ _ _
                  exact ⟨⟨j + 1, hjl⟩, (by dsimp only; omega), [], (by repeat' first | exact .nil | refine .cons _ _ _ ?_ ?_ | exact .int_eq wj | exact .same | exact .c _ _ (.own _ _ rfl) | exact .c _ _ (.ptr _ _ _ _ rfl) | exact .c _ _ (.frz _ _ rfl) | exact .any _), (by exact .nil), (by rfl)⟩
                · show ABr _ _ _
                  refine ⟨fun h => absurd h (by decide), fun _ => ?_⟩
                  show ARound _ _ _ _
                  exact ⟨⟨j + 1, hjl⟩, (by dsimp only; omega), [], (by repeat' first | exact .nil | refine .cons _ _ _ ?_ ?_ | exact .int_eq wj | exact .same | exact .c _ _ (.own _ _ rfl) | exact .c _ _ (.ptr _ _ _ _ rfl) | exact .c _ _ (.frz _ _ rfl) | exact .any _), (by exact .nil), (by rfl)⟩
              · show ARet _ _ _
                exact ret_d rfl ⟨rfl, rfl⟩
      · refine ⟨fun h => absurd h.1 hmet, fun _ => ?_⟩
        show AOb _ _
        refine ⟨by exact fun _ => by simpa using hmet, ?_⟩
        show ABr _ _ _
        refine ⟨fun h => absurd h (by decide), fun _ => ?_⟩
        obtain ⟨r1, r2, r3, r4⟩ := sweep_cards (sweep_step g c) hm (fun k => absurd k hmet)
        have st := sweep_step g c
        have kl := st.light f2
        have ks := st.small f3
        have hC20 : g.cards.length ≤ 20 := by have := of_decide_eq_true f1; omega
        show ACall _ _ _ _ _ _
        refine call_ret (swStep_spec g c f2 f3 f5) rfl ?_
        generalize sweepS g c = S at r1 r2 r3 r4 st kl ks
        obtain ⟨k, d⟩ := S
        have d64 : d.seek < 9223372036854775808 := by
          have hc := hcf.2.2.2.2.1.2
          have hn := next_lt (l := g.pages) (a := c.seek)
          have st : SwStep g c k d := st
          cases st <;> first | exact hc | exact hn | exact (by decide : (0:Int) < 9223372036854775808)
        have r1 : k.cards.length = g.cards.length := r1
        have r2 : d.met = true → isDirty k d.seek = true := r2
        have kl : k.light := kl
        show AIf (d.met = true ∧ (!decide ((k.cards.length : Int) = (g.cards.length : Int))) = false ∧ True) _ _
        by_cases hdm : d.met = true
        · refine ⟨fun _ => ?_, fun h => absurd ⟨hdm, by rw [r1]; simp, trivial⟩ h⟩
          show ACall _ _ _ _ _ _
          refine call_ret (Is_spec k d.seek kl d64) rfl ?_
          show ABr (bif !decide ((k.cards.length : Int) = (g.cards.length : Int)) then true else !isDirty k d.seek) _ _
          rw [r2 hdm]
          refine ⟨fun h => absurd h (by rw [r1]; simp), fun _ => ?_⟩
          show ∃ n, _
          refine ⟨0, ALoop.inv (ι := {i : Nat // i ≤ g.cards.length}) (fun q => ⟨[(2, .c (.d (.rp (g.enc)))), (7, .c (.d (.rp (k.enc)))), (9, .int (q.1))], [], 32⟩) (fun q => g.cards.length - q.1) ⟨0, Nat.zero_le _⟩ ?_ ?_⟩
          · exact ⟨[], (by repeat' first | exact .nil | refine .cons _ _ _ ?_ ?_ | exact .same | exact .c _ _ (.own _ _ rfl) | exact .c _ _ (.ptr _ _ _ _ rfl) | exact .c _ _ (.frz _ _ rfl) | exact .any _), (by exact .nil), (by rfl)⟩
          rintro ⟨i, hi⟩
          show ABr (decide ((i : Int) < (g.cards.length : Int))) _ _
          refine ⟨fun h => ?_, fun h => ?_⟩
          · have hil : i < g.cards.length := by have := of_decide_eq_true h; omega
            have wi : IntKind.i64.wrap ((i : Int) + 1) = ((i + 1 : Nat) : Int) := wrapP (i := i) (by unfold maxN; omega)
            show AOb ((0 : Int) ≤ (i : Int) ∧ (i : Int) < (g.cards.length : Int)) _
            refine ⟨by omega, ?_⟩
            show AOb _ _
            refine ⟨fun _ => (show (0 : Int) ≤ (i : Int) ∧ (i : Int) < (k.cards.length : Int) by omega), ?_⟩
            show ABr (bif g.cards.getD i false then !k.cards.getD i false else false) _ _
            have hq : (bif g.cards.getD i false then !k.cards.getD i false else false) = false := by
              cases hc : g.cards.getD i false with
              | false => rfl
              | true => rw [r3 i hc]; rfl
            refine ⟨fun h => absurd (hq.symm.trans h) (by decide), fun _ => ?_⟩
            show ARound _ _ _ _
            exact ⟨⟨i + 1, hil⟩, (by dsimp only; omega), [], (by repeat' first | exact .nil | refine .cons _ _ _ ?_ ?_ | exact .int_eq wi | exact .same | exact .c _ _ (.own _ _ rfl) | exact .c _ _ (.ptr _ _ _ _ rfl) | exact .c _ _ (.frz _ _ rfl) | exact .any _), (by exact .nil), (by rfl)⟩
          · show ACall _ _ _ _ _ _
            refine call_ret (hUsed_spec k kl) rfl ?_
            show ∃ n, _
            refine ⟨0, ALoop.inv (ι := {j : Nat // j ≤ (usedH k).length}) (fun q => ⟨[(2, .c (.d (.rp (g.enc)))), (7, .c (.d (.rp (k.enc)))), (10, .c (.d (.sl .int (usedH k)))), (11, .int (q.1))], [], 32⟩) (fun q => (usedH k).length - q.1) ⟨0, Nat.zero_le _⟩ ?_ ?_⟩
            · exact ⟨[], (by repeat' first | exact .nil | refine .cons _ _ _ ?_ ?_ | exact .same | exact .c _ _ (.own _ _ rfl) | exact .c _ _ (.ptr _ _ _ _ rfl) | exact .c _ _ (.frz _ _ rfl) | exact .any _), (by exact .nil), (by rfl)⟩
            rintro ⟨j, hj⟩
            have hj : j ≤ (usedH k).length := hj
            show ABr (decide ((j : Int) < ((usedH k).length : Int))) _ _
            refine ⟨fun h => ?_, fun h => ?_⟩
            · have hjl : j < (usedH k).length := by have := of_decide_eq_true h; omega
              have hlen : (usedH k).length ≤ 512 := used_len k
              have wj : IntKind.i64.wrap ((j : Int) + 1) = ((j + 1 : Nat) : Int) := wrapP (i := j) (by unfold maxN; omega)
              have hu : headE k (at0 (usedH k) j) = 0 := mem_usedH.1 (by rw [at0_get hjl]; exact List.getElem_mem _)
              obtain ⟨u1, u2⟩ := r4 _ hu
              have u64 : at0 (usedH k) j < 9223372036854775808 := used_lt hu
              show AOb ((0 : Int) ≤ (j : Int) ∧ (j : Int) < ((usedH k).length : Int)) _
              refine ⟨by omega, ?_⟩
              show ADCall _ _ _ _ _ _
              refine .mk _ _ (hHead_spec g (at0 (usedH k) j) f2) rfl ?_
              show AOb ((0 : Int) ≤ (j : Int) ∧ (j : Int) < ((usedH k).length : Int)) _
              refine ⟨by omega, ?_⟩
              show ADCall _ _ _ _ _ _
              refine .mk _ _ (hHead_spec k (at0 (usedH k) j) kl) rfl ?_
              show ABr (headE g (at0 (usedH k) j) != 0) _ _
              rw [show (headE g (at0 (usedH k) j) != 0) = false by rw [u1]; rfl]
              show ABr _ _ _
              refine ⟨fun h => absurd h (by decide), fun _ => ?_⟩
              show ABr ((headH k (at0 (usedH k) j)).old != (headH g (at0 (usedH k) j)).old) _ _
              refine ⟨fun hne => ?_, fun hne => ?_⟩
              · show AOb ((0 : Int) ≤ (j : Int) ∧ (j : Int) < ((usedH k).length : Int)) _
                refine ⟨by omega, ?_⟩
                show ADCall _ _ _ _ _ _
                refine .mk _ _ (Is_spec k (at0 (usedH k) j) kl u64) rfl ?_
                rw [u2 (by simpa using hne)]
                show ABr _ _ _
                refine ⟨fun h => absurd h (by decide), fun _ => ?_⟩
                show ARound _ _ _ _
                exact ⟨⟨j + 1, hjl⟩, (by dsimp only; omega), [], (by repeat' first | exact .nil | refine .cons _ _ _ ?_ ?_ | exact .int_eq wj | exact .same | exact .c _ _ (.own _ _ rfl) | exact .c _ _ (.ptr _ _ _ _ rfl) | exact .c _ _ (.frz _ _ rfl) | exact .any _), (by exact .nil), (by rfl)⟩
              · show ABr _ _ _
                refine ⟨fun h => absurd h (by decide), fun _ => ?_⟩
                show ARound _ _ _ _
                exact ⟨⟨j + 1, hjl⟩, (by dsimp only; omega), [], (by repeat' first | exact .nil | refine .cons _ _ _ ?_ ?_ | exact .int_eq wj | exact .same | exact .c _ _ (.own _ _ rfl) | exact .c _ _ (.ptr _ _ _ _ rfl) | exact .c _ _ (.frz _ _ rfl) | exact .any _), (by exact .nil), (by rfl)⟩
            · show ARet _ _ _
              exact ret_d rfl ⟨rfl, rfl⟩
        · refine ⟨fun h => absurd h.1 hdm, fun _ => ?_⟩
          show AOb _ _
          refine ⟨by exact fun _ => by simpa using hdm, ?_⟩
          show ABr (bif !decide ((k.cards.length : Int) = (g.cards.length : Int)) then true else false) _ _
          refine ⟨fun h => absurd h (by rw [r1]; simp), fun _ => ?_⟩
          show ∃ n, _
          refine ⟨0, ALoop.inv (ι := {i : Nat // i ≤ g.cards.length}) (fun q => ⟨[(2, .c (.d (.rp (g.enc)))), (7, .c (.d (.rp (k.enc)))), (9, .int (q.1))], [], 32⟩) (fun q => g.cards.length - q.1) ⟨0, Nat.zero_le _⟩ ?_ ?_⟩
          · exact ⟨[], (by repeat' first | exact .nil | refine .cons _ _ _ ?_ ?_ | exact .same | exact .c _ _ (.own _ _ rfl) | exact .c _ _ (.ptr _ _ _ _ rfl) | exact .c _ _ (.frz _ _ rfl) | exact .any _), (by exact .nil), (by rfl)⟩
          rintro ⟨i, hi⟩
          show ABr (decide ((i : Int) < (g.cards.length : Int))) _ _
          refine ⟨fun h => ?_, fun h => ?_⟩
          · have hil : i < g.cards.length := by have := of_decide_eq_true h; omega
            have wi : IntKind.i64.wrap ((i : Int) + 1) = ((i + 1 : Nat) : Int) := wrapP (i := i) (by unfold maxN; omega)
            show AOb ((0 : Int) ≤ (i : Int) ∧ (i : Int) < (g.cards.length : Int)) _
            refine ⟨by omega, ?_⟩
            show AOb _ _
            refine ⟨fun _ => (show (0 : Int) ≤ (i : Int) ∧ (i : Int) < (k.cards.length : Int) by omega), ?_⟩
            show ABr (bif g.cards.getD i false then !k.cards.getD i false else false) _ _
            have hq : (bif g.cards.getD i false then !k.cards.getD i false else false) = false := by
              cases hc : g.cards.getD i false with
              | false => rfl
              | true => rw [r3 i hc]; rfl
            refine ⟨fun h => absurd (hq.symm.trans h) (by decide), fun _ => ?_⟩
            show ARound _ _ _ _
            exact ⟨⟨i + 1, hil⟩, (by dsimp only; omega), [], (by repeat' first | exact .nil | refine .cons _ _ _ ?_ ?_ | exact .int_eq wi | exact .same | exact .c _ _ (.own _ _ rfl) | exact .c _ _ (.ptr _ _ _ _ rfl) | exact .c _ _ (.frz _ _ rfl) | exact .any _), (by exact .nil), (by rfl)⟩
          · show ACall _ _ _ _ _ _
            refine call_ret (hUsed_spec k kl) rfl ?_
            show ∃ n, _
            refine ⟨0, ALoop.inv (ι := {j : Nat // j ≤ (usedH k).length}) (fun q => ⟨[(2, .c (.d (.rp (g.enc)))), (7, .c (.d (.rp (k.enc)))), (10, .c (.d (.sl .int (usedH k)))), (11, .int (q.1))], [], 32⟩) (fun q => (usedH k).length - q.1) ⟨0, Nat.zero_le _⟩ ?_ ?_⟩
            · exact ⟨[], (by repeat' first | exact .nil | refine .cons _ _ _ ?_ ?_ | exact .same | exact .c _ _ (.own _ _ rfl) | exact .c _ _ (.ptr _ _ _ _ rfl) | exact .c _ _ (.frz _ _ rfl) | exact .any _), (by exact .nil), (by rfl)⟩
            rintro ⟨j, hj⟩
            have hj : j ≤ (usedH k).length := hj
            show ABr (decide ((j : Int) < ((usedH k).length : Int))) _ _
            refine ⟨fun h => ?_, fun h => ?_⟩
            · have hjl : j < (usedH k).length := by have := of_decide_eq_true h; omega
              have hlen : (usedH k).length ≤ 512 := used_len k
              have wj : IntKind.i64.wrap ((j : Int) + 1) = ((j + 1 : Nat) : Int) := wrapP (i := j) (by unfold maxN; omega)
              have hu : headE k (at0 (usedH k) j) = 0 := mem_usedH.1 (by rw [at0_get hjl]; exact List.getElem_mem _)
              obtain ⟨u1, u2⟩ := r4 _ hu
              have u64 : at0 (usedH k) j < 9223372036854775808 := used_lt hu
              show AOb ((0 : Int) ≤ (j : Int) ∧ (j : Int) < ((usedH k).length : Int)) _
              refine ⟨by omega, ?_⟩
              show ADCall _ _ _ _ _ _
              refine .mk _ _ (hHead_spec g (at0 (usedH k) j) f2) rfl ?_
              show AOb ((0 : Int) ≤ (j : Int) ∧ (j : Int) < ((usedH k).length : Int)) _
              refine ⟨by omega, ?_⟩
              show ADCall _ _ _ _ _ _
              refine .mk _ _ (hHead_spec k (at0 (usedH k) j) kl) rfl ?_
              show ABr (headE g (at0 (usedH k) j) != 0) _ _
              rw [show (headE g (at0 (usedH k) j) != 0) = false by rw [u1]; rfl]
              show ABr _ _ _
              refine ⟨fun h => absurd h (by decide), fun _ => ?_⟩
              show ABr ((headH k (at0 (usedH k) j)).old != (headH g (at0 (usedH k) j)).old) _ _
              refine ⟨fun hne => ?_, fun hne => ?_⟩
              · show AOb ((0 : Int) ≤ (j : Int) ∧ (j : Int) < ((usedH k).length : Int)) _
                refine ⟨by omega, ?_⟩
                show ADCall _ _ _ _ _ _
                refine .mk _ _ (Is_spec k (at0 (usedH k) j) kl u64) rfl ?_
                rw [u2 (by simpa using hne)]
                show ABr _ _ _
                refine ⟨fun h => absurd h (by decide), fun _ => ?_⟩
                show ARound _ _ _ _
                exact ⟨⟨j + 1, hjl⟩, (by dsimp only; omega), [], (by repeat' first | exact .nil | refine .cons _ _ _ ?_ ?_ | exact .int_eq wj | exact .same | exact .c _ _ (.own _ _ rfl) | exact .c _ _ (.ptr _ _ _ _ rfl) | exact .c _ _ (.frz _ _ rfl) | exact .any _), (by exact .nil), (by rfl)⟩
              · show ABr _ _ _
                refine ⟨fun h => absurd h (by decide), fun _ => ?_⟩
                show ARound _ _ _ _
                exact ⟨⟨j + 1, hjl⟩, (by dsimp only; omega), [], (by repeat' first | exact .nil | refine .cons _ _ _ ?_ ?_ | exact .int_eq wj | exact .same | exact .c _ _ (.own _ _ rfl) | exact .c _ _ (.ptr _ _ _ _ rfl) | exact .c _ _ (.frz _ _ rfl) | exact .any _), (by exact .nil), (by rfl)⟩
            · show ARet _ _ _
              exact ret_d rfl ⟨rfl, rfl⟩
end Go.Abs
