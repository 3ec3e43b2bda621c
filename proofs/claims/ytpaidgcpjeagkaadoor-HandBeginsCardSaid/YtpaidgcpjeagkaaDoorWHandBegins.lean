/- Walks: a thread that begins has answered as the one did of which it has its register. -/
import Derived.Test.YtpaidgcpjeagkaaDoorWHandOnce
import Derived.Test.YtpaidgcpjeagkaaDoorWHolds
import Derived.Test.YtpaidgcpjeagkaaDoorWStages
set_option linter.all false
set_option linter.unusedVariables false
set_option linter.unusedSimpArgs false
namespace Go.Abs
open Go.Proofs Go.Proofs.YtpaidgcpjeagkaaDoor
set_option maxRecDepth 8000

theorem acc_one {u : Thread} (h1 : u.r1 = 0) (h2 : u.r2 = 0) (h3 : u.r3 = 0) (hx : u.x = 0) (hy : u.y = 0) : u.acc 6 = if u.r0 = 0 then [] else [u.r0] := by
  unfold Thread.acc Thread.six
  rw [h1, h2, h3, hx, hy]
  by_cases h : u.r0 = 0
  · simp [h]
  · simp [h]
theorem begin0_same (t : Thread) (e s r : Int) : { begin0 t e s with r0 := r }.live = true ∧ { begin0 t e s with r0 := r }.ops = t.ops := ⟨rfl, rfl⟩

theorem answered_begin (c : Col) (t : Thread) : answeredB c (begin0 t (if c.phase = 0 then 0 else c.epoch) (wantsH c.phase)) = true := by
  unfold answeredB wantsH
  by_cases h0 : c.phase = 0
  · rw [if_pos h0]
  · rw [if_neg h0, if_neg h0, if_neg h0]
    by_cases h1 : c.phase = 1
    · rw [if_pos h1]; exact decide_eq_true rfl
    · rw [if_neg h1, if_neg h1]
      by_cases h2 : c.phase = 2
      · rw [if_pos h2, if_pos h2]; exact decide_eq_true ⟨rfl, Int.le_refl _⟩
      · rw [if_neg h2, if_neg h2]; exact decide_eq_true ⟨rfl, rfl⟩
theorem answered_like {c : Col} {u x : Thread} (h1 : u.epoch = x.epoch) (h2 : u.stage = x.stage) : answeredB c u = answeredB c x := by unfold answeredB; rw [h1, h2]

/-- The first that lives among so many. -/
structure Find (l : List Thread) (i : Nat) (f : Int) : Prop where
  le : i ≤ l.length
  ge : -1 ≤ f
  none : f = -1 → ∀ j, j < i → (l.getD j default).live = false
  some : 0 ≤ f → l.findIdx? (·.live) = some f.toNat

set_option maxHeartbeats 2000000 in
theorem HandBegins_spec (c : Col) (t : Thread) (l : List Thread) : Spec X 6 [] [c.tv, t.tv, .c (.d (.sl .thread l))] (Ret [] (.bo true)) := by
  refine spec_go X_ok Tryd.f6 (by kernel_rfl) (by kernel_rfl) (by kernel_rfl) fun hb hH => ⟨rfl, ?_⟩
  show ACall _ _ _ _ _ _
  refine call_ret (awake15_spec) rfl ?_
  show ACall _ _ _ _ _ _
  refine call_ret (Few12_spec t) rfl ?_
  cases hf : t.few with
  | false =>
    show ABr (bif true then true else decide ((l.length : Int) > 6)) _ _
    show ABr _ _ _
    refine ⟨fun _ => ?_, fun h => absurd h (by simp)⟩
    show ARet _ _ _
    exact ret_d rfl ⟨rfl, rfl⟩
  | true =>
    have hok := few_ok15 hf
    show ABr (bif (bif !true then true else !true) then true else decide ((l.length : Int) > 6)) _ _
    by_cases hl : (l.length : Int) > 6
    · rw [decide_eq_true hl]
      show ABr _ _ _
      refine ⟨fun _ => ?_, fun h => absurd h (by decide)⟩
      show ARet _ _ _
      exact ret_d rfl ⟨rfl, rfl⟩
    · rw [decide_eq_false hl]
      show ABr _ _ _
      refine ⟨fun h => absurd h (by decide), fun _ => ?_⟩
      show ACall _ _ _ _ _ _
      refine call_ret (Begin_spec c t l hok) rfl ?_
      obtain ⟨u, hu⟩ : ∃ u, u = beginT c t l := ⟨_, rfl⟩
      rw [← hu]
      show ∃ n, _
      refine ⟨0, ALoop.inv (ι := {q : Nat × Int // Find l q.1 q.2}) (fun q => ⟨[(2, .c (.d (.sl .thread (l)))), (3, .c (.d (.rp (c.enc)))), (4, .c (.d (.rp ((EK.enc .thread t))))), (9, .c (.d (.rp ((EK.enc .thread u))))), (10, .int (q.1.2)), (11, .int (q.1.1))], [], 32⟩) (fun q => l.length - q.1.1) ⟨(0, -1), Nat.zero_le _, by decide, fun _ j h => absurd h (Nat.not_lt_zero j), fun h => absurd h (by decide)⟩ ?_ ?_⟩
      · exact ⟨[], (by repeat' first | exact .nil | refine .cons _ _ _ ?_ ?_ | exact .same | exact .c _ _ (.own _ _ rfl) | exact .c _ _ (.ptr _ _ _ _ rfl) | exact .c _ _ (.frz _ _ rfl) | exact .any _), (by exact .nil), (by rfl)⟩
      rintro ⟨⟨i, f⟩, hF⟩
      have hF : Find l i f := hF
      obtain ⟨F1, F2, F3, F4⟩ := hF
      show ABr (bif decide ((i : Int) < (l.length : Int)) then decide (f < 0) else false) _ _
      refine ⟨fun h => ?_, fun h => ?_⟩
      · have hlt : i < l.length := by
          by_cases h1 : (i : Int) < (l.length : Int)
          · omega
          · rw [decide_eq_false h1] at h; cases h
        have hf1 : f = -1 := by
          rw [decide_eq_true (show (i : Int) < (l.length : Int) by omega)] at h
          have : f < 0 := by simpa using h
          omega
        subst hf1
        have wi : IntKind.i64.wrap ((i : Int) + 1) = ((i + 1 : Nat) : Int) := wrapP (i := i) (by unfold maxN; omega)
        show AOb ((0 : Int) ≤ (i : Int) ∧ (i : Int) < (l.length : Int)) _
        refine ⟨by omega, ?_⟩
        show ABr ((l.getD i default).live) _ _
        refine ⟨fun h => ?_, fun h => ?_⟩
        · have hn : Find l (i + 1) (i : Int) := ⟨hlt, by omega, fun e => by omega, fun _ => idxT_some (p := (·.live)) hlt (F3 rfl) h⟩
          show ARound _ _ _ _
          exact ⟨⟨(i + 1, (i : Int)), hn⟩, (by dsimp only; omega), [], (by repeat' first | exact .nil | refine .cons _ _ _ ?_ ?_ | exact .int_eq wi | exact .same | exact .c _ _ (.own _ _ rfl) | exact .c _ _ (.ptr _ _ _ _ rfl) | exact .c _ _ (.frz _ _ rfl) | exact .any _), (by exact .nil), (by rfl)⟩
        · have hn : Find l (i + 1) (-1) := ⟨hlt, by decide, fun _ j hj => (by
            by_cases e : j = i
            · subst e; exact h
            · exact F3 rfl j (by omega)), fun h => absurd h (by decide)⟩
          show ARound _ _ _ _
          exact ⟨⟨(i + 1, -1), hn⟩, (by dsimp only; omega), [], (by repeat' first | exact .nil | refine .cons _ _ _ ?_ ?_ | exact .int_eq wi | exact .same | exact .c _ _ (.own _ _ rfl) | exact .c _ _ (.ptr _ _ _ _ rfl) | exact .c _ _ (.frz _ _ rfl) | exact .any _), (by exact .nil), (by rfl)⟩
      · show ACall _ _ _ _ _ _
        refine call_ret (Holds_spec u) rfl ?_
        cases hx : l.findIdx? (·.live) with
        | none =>
          have hf1 : f = -1 := by
            by_cases h0 : 0 ≤ f
            · have := F4 h0; rw [hx] at this; cases this
            · omega
          subst hf1
          have e := beginT_none (c := c) (t := t) hx
          rw [← hu] at e
          have hacc : u.acc 6 = [] := by
            rw [acc_one (by rw [e]; rfl) (by rw [e]; rfl) (by rw [e]; rfl) (by rw [e]; rfl) (by rw [e]; rfl), if_pos (by rw [e]; rfl)]
          rw [hacc]
          have a1 : answeredB c u = true := by rw [e]; exact answered_begin c t
          have b1 : u.live = true := by rw [e]; rfl
          have b2 : u.ops = t.ops := by rw [e]; rfl
          have b3 : u.pc = 0 := by rw [e]; rfl
          have b4 : u.root = 0 := by rw [e]; rfl
          have b5 : u.r1 = 0 := by rw [e]; rfl
          have b6 : u.r2 = 0 := by rw [e]; rfl
          have b7 : u.r3 = 0 := by rw [e]; rfl
          show AOb _ _
          refine ⟨by exact fun _ => by decide, ?_⟩
          show AOb _ _
          refine ⟨by exact fun _ => by decide, ?_⟩
          show AOb _ _
          refine ⟨by exact fun _ => by decide, ?_⟩
          show ABr _ _ _
          refine ⟨fun h => absurd h ?_, fun _ => ?_⟩
          · rw [b1, b2, b3, b4, b5, b6, b7]
            simp
            show ((0 : Nat) : Int) ≤ 1
            decide
          · show ABr (decide ((-1 : Int) ≥ 0)) _ _
            show ABr _ _ _
            refine ⟨fun h => absurd h (by decide), fun _ => ?_⟩
            show ACall _ _ _ _ _ _
            refine call_ret (hAll_spec c [u]) rfl ?_
            rw [allB_one, a1, Bool.or_true]
            show AIf _ _ _
            refine ⟨fun _ => ?_, fun h => absurd ⟨rfl, trivial⟩ h⟩
            show ACall _ _ _ _ _ _
            refine call_ret (Asked_spec c u) rfl ?_
            rw [asked_not a1]
            show ABr _ _ _
            refine ⟨fun h => absurd h (by decide), fun _ => ?_⟩
            by_cases hq : c.phase = 3 ∨ c.phase = 5
            · have hc : (bif !decide (c.phase = 3) then !decide (c.phase = 5) else false) = false := by
                rcases hq with h | h <;> simp [h]
              have ep : u.epoch = c.epoch := by rw [e]; show (if c.phase = 0 then 0 else c.epoch) = c.epoch; rw [if_neg (by omega)]
              have es : u.stage = 3 := by rw [e]; show wantsH c.phase = 3; unfold wantsH; rw [if_neg (by omega), if_neg (by omega), if_neg (by omega)]
              show AIf ((bif !decide (c.phase = 3) then !decide (c.phase = 5) else false) = false ∧ True) _ _
              refine ⟨fun _ => ?_, fun h => absurd ⟨hc, trivial⟩ h⟩
              show ACall _ _ _ _ _ _
              refine call_ret (Black_spec c u) rfl ?_
              rw [decide_eq_true (show u.epoch = c.epoch ∧ u.stage = 3 ∧ c.phase ≠ 0 from ⟨ep, es, by omega⟩)]
              show AIf _ _ _
              refine ⟨fun _ => ?_, fun h => absurd ⟨rfl, hc, trivial⟩ h⟩
              show ACall _ _ _ _ _ _
              refine call_ret (Armed_spec c u) rfl ?_
              rw [decide_eq_true (show u.epoch = c.epoch ∧ 1 ≤ c.phase ∧ c.phase ≤ 5 from ⟨ep, by omega, by omega⟩)]
              show ARet _ _ _
              exact ret_d rfl ⟨rfl, rfl⟩
            · have hc : (bif !decide (c.phase = 3) then !decide (c.phase = 5) else false) = true := by
                rw [decide_eq_false (fun h => hq (.inl h)), decide_eq_false (fun h => hq (.inr h))]
                rfl
              show AIf ((bif !decide (c.phase = 3) then !decide (c.phase = 5) else false) = false ∧ True) _ _
              refine ⟨fun h => absurd (hc.symm.trans h.1) (by decide), fun _ => ?_⟩
              show AOb _ _
              refine ⟨by exact hc, ?_⟩
              show ARet _ _ _
              exact ret_d rfl ⟨rfl, rfl⟩
        | some n =>
          obtain ⟨g1, g2, g3, e⟩ := beginT_some (c := c) (t := t) hx
          rw [← hu] at e
          have hfn : f = (n : Int) := by
            by_cases h0 : 0 ≤ f
            · have := F4 h0; rw [hx] at this; have := Option.some.inj this; omega
            · exfalso
              have hf1 : f = -1 := by omega
              have hil : i = l.length := by
                rw [decide_eq_true (show f < 0 by omega)] at h
                by_cases h1 : (i : Int) < (l.length : Int)
                · rw [decide_eq_true h1] at h; cases h
                · omega
              have := F3 hf1 n (by omega)
              rw [g2] at this
              cases this
          subst hfn
          obtain ⟨x, hxx⟩ : ∃ x, x = l.getD n default := ⟨_, rfl⟩
          rw [← hxx] at e g2
          have hacc : (u.acc 6).length ≤ 1 := by
            rw [acc_one (by rw [e]; rfl) (by rw [e]; rfl) (by rw [e]; rfl) (by rw [e]; rfl) (by rw [e]; rfl)]
            split
            · exact Nat.zero_le _
            · exact Nat.le_refl _
          have b1 : u.live = true := by rw [e]; rfl
          have b2 : u.ops = t.ops := by rw [e]; rfl
          have b3 : u.pc = 0 := by rw [e]; rfl
          have b4 : u.root = 0 := by rw [e]; rfl
          have b5 : u.r1 = 0 := by rw [e]; rfl
          have b6 : u.r2 = 0 := by rw [e]; rfl
          have b7 : u.r3 = 0 := by rw [e]; rfl
          show AOb _ _
          refine ⟨by exact fun _ => by decide, ?_⟩
          show AOb _ _
          refine ⟨by exact fun _ => by decide, ?_⟩
          show AOb _ _
          refine ⟨by exact fun _ => by decide, ?_⟩
          show ABr _ _ _
          refine ⟨fun h => absurd h ?_, fun _ => ?_⟩
          · rw [b1, b2, b3, b4, b5, b6, b7]
            simp
            show ((u.acc 6).length : Int) ≤ 1
            omega
          · show ABr (decide ((n : Int) ≥ 0)) _ _
            show ABr _ _ _
            refine ⟨fun _ => ?_, fun h => absurd h (by simp)⟩
            show AOb _ _
            refine ⟨by decide, ?_⟩
            show AOb ((0 : Int) ≤ (n : Int) ∧ (n : Int) < (l.length : Int)) _
            refine ⟨by omega, ?_⟩
            show AOb _ _
            refine ⟨by decide, ?_⟩
            show ABr (decide (u.r0 = (l.getD n default).r0)) _ _
            rw [← hxx, decide_eq_true (show u.r0 = x.r0 by rw [e])]
            show ABr _ _ _
            refine ⟨fun _ => ?_, fun h => absurd h (by decide)⟩
            show ADCall _ _ _ _ _ _
            refine .mk _ _ (hAll_spec c [u]) rfl ?_
            show AOb ((0 : Int) ≤ (n : Int) ∧ (n : Int) < (l.length : Int)) _
            refine ⟨by omega, ?_⟩
            show ADCall _ _ _ _ _ _
            refine .mk _ _ (hAll_spec c [l.getD n default]) rfl ?_
            rw [← hxx]
            have a1 : allB c [u] = allB c [x] := by
              rw [allB_one, allB_one, b1, g2, answered_like (c := c) (u := u) (x := x) (by rw [e]; rfl) (by rw [e]; rfl)]
            rw [a1]
            show ABr (allB c [x] == allB c [x]) _ _
            rw [beq_self_eq_true]
            show ABr _ _ _
            refine ⟨fun _ => ?_, fun h => absurd h (by decide)⟩
            show ADCall _ _ _ _ _ _
            refine .mk _ _ (Black_spec c u) rfl ?_
            show AOb ((0 : Int) ≤ (n : Int) ∧ (n : Int) < (l.length : Int)) _
            refine ⟨by omega, ?_⟩
            show ADCall _ _ _ _ _ _
            refine .mk _ _ (Black_spec c (l.getD n default)) rfl ?_
            rw [← hxx]
            show ARet _ _ _
            refine ret_bo (x := decide (u.epoch = c.epoch ∧ u.stage = 3 ∧ c.phase ≠ 0) == decide (x.epoch = c.epoch ∧ x.stage = 3 ∧ c.phase ≠ 0)) ?_ ⟨rfl, rfl⟩
            rw [show u.epoch = x.epoch by rw [e]; rfl, show u.stage = x.stage by rw [e]; rfl, beq_self_eq_true]
end Go.Abs
