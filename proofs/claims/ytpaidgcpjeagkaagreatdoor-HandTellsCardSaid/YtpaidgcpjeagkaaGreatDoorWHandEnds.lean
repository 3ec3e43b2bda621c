/- Walks: six answers are enough. -/
import Derived.Test.YtpaidgcpjeagkaaGreatDoorWHandRoots
import Derived.Test.YtpaidgcpjeagkaaGreatDoorWRefOwn
set_option linter.all false
set_option linter.unusedVariables false
set_option linter.unusedSimpArgs false
namespace Go.Abs
open Go.Proofs Go.Proofs.YtpaidgcpjeagkaaGreatDoor
set_option maxRecDepth 8000

set_option maxHeartbeats 2000000 in
theorem HandEnds_spec (g : Hp) (c : Col) (t : Thread) : Spec X 4 [] [g.tv, c.tv, t.tv] (Ret [] (.bo true)) := by
  refine spec_go X_ok Tryz.f4 (by kernel_rfl) (by kernel_rfl) (by kernel_rfl) fun hb hH => ⟨rfl, ?_⟩
  show ACall _ _ _ _ _ _
  refine call_ret (awake15_spec) rfl ?_
  show ACall _ _ _ _ _ _
  refine call_ret (few15_spec g c t) rfl ?_
  cases hf : few15 g c t with
  | false =>
    show AIf _ _ _
    refine ⟨fun h => absurd h.1 (by decide), fun _ => ?_⟩
    show AOb _ _
    refine ⟨by decide, ?_⟩
    show ABr _ _ _
    refine ⟨fun _ => ?_, fun h => absurd h (by decide)⟩
    show ARet _ _ _
    exact ret_d rfl ⟨rfl, rfl⟩
  | true =>
    obtain ⟨f1, f2, f3, f4, f5⟩ := few15_of hf
    show AIf _ _ _
    refine ⟨fun _ => ?_, fun h => absurd ⟨rfl, trivial⟩ h⟩
    show ACall _ _ _ _ _ _
    refine call_ret (Asked_spec c t) rfl ?_
    show ABr (!askedB c t) _ _
    refine ⟨fun h => ?_, fun h => ?_⟩
    · show ARet _ _ _
      exact ret_d rfl ⟨rfl, rfl⟩
    · have ha : askedB c t = true := by simpa using h
      show ACall _ _ _ _ _ _
      refine .mk _ (rOwn7_spec g f3) fun H r hq _ _ => ?_
      obtain ⟨rfl, rfl⟩ := hq
      refine ⟨.inl rfl, ?_⟩
      show ACall _ _ _ _ _ _
      refine .mk _ (rcOwn_spec c (Nat.le_of_lt (work_most f4))) fun H r hq _ _ => ?_
      obtain ⟨rfl, rfl⟩ := hq
      refine ⟨.inl rfl, ?_⟩
      show ∃ n, _
      refine ⟨0, ALoop.inv (ι := {q : Nat × Hp × Col × Thread // q.1 ≤ 6 ∧ Ans g c t q.1 q.2.1 q.2.2.1 q.2.2.2 ∧ q.1 + rem c q.2.2.2 ≤ 6}) (fun q => ⟨[(3, .c (.d (.rp (g.enc)))), (4, .c (.d (.rp (c.enc)))), (5, .c (.ptr 0 0 0)), (9, .c (.d (.rp ((EK.enc .thread t))))), (10, .c (.ptr 1 0 0)), (11, .c (.ptr 2 0 0)), (12, .int (q.1.1))], [(0, .vars ((EK.enc .thread q.1.2.2.2).map .d)), (1, .vars (q.1.2.1.enc.map .d)), (2, .vars (q.1.2.2.1.enc.map .d))], 128⟩) (fun q => 6 - q.1.1) ⟨(0, g, c, t), by simp, .start g c t, by have := rem_le c t (asked_of ha).2.1; show 0 + rem c t ≤ 6; omega⟩ ?_ ?_⟩
      · exact ⟨[(96, 0), (928, 1), (1056, 2)], (by repeat' first | exact .nil | refine .cons _ _ _ ?_ ?_ | exact .same | exact .c _ _ (.ptr _ _ _ _ rfl) | exact .c _ _ (.frz _ _ rfl)), .old 0 96 _ _ _ rfl rfl (.vars _ _ (LeL_refl rfl)) (.old 1 928 _ _ _ rfl rfl (.vars _ _ (.cons _ _ _ _ (.frz _ _ rfl) (.cons _ _ _ _ (.frz _ _ rfl) (.cons _ _ _ _ (.d _) (.cons _ _ _ _ (.d _) (.cons _ _ _ _ (.d _) (.cons _ _ _ _ (.frz _ _ rfl) .nil))))))) (.old 2 1056 _ _ _ rfl rfl (.vars _ _ (.cons _ _ _ _ (.d _) (.cons _ _ _ _ (.d _) (.cons _ _ _ _ (.d _) (.cons _ _ _ _ (.frz _ _ rfl) (.cons _ _ _ _ (.d _) (.cons _ _ _ _ (.d _) (.cons _ _ _ _ (.d _) (.cons _ _ _ _ (.d _) (.cons _ _ _ _ (.d _) (.cons _ _ _ _ (.d _) .nil))))))))))) .nil)), rfl⟩
      rintro ⟨⟨n, k, d, u⟩, hn, hA, hm⟩
      have hn : n ≤ 6 := hn
      have hm : n + rem c u ≤ 6 := hm
      obtain ⟨k1, k2⟩ := few_ans hA.few f1
      have k3 : d.work.length < most := by have := hA.work; unfold most; simp only [] at this; omega
      have k4 := ok_ans hA.thr f5
      have hcol : askedB d u = askedB c u := asked_col hA.col.phase hA.col.epoch u
      have hmay : u.mayT := hA.may (asked_of ha).2.1
      show AIf (decide ((n : Int) < 6) = true ∧ True) _ _
      by_cases h6 : n < 6
      · refine ⟨fun _ => ?_, fun h => absurd ⟨decide_eq_true (by omega), trivial⟩ h⟩
        show ACall _ _ _ _ _ _
        refine call_ret (Asked_spec d u) rfl ?_
        show ABr (askedB d u) _ _
        refine ⟨fun h => ?_, fun h => ?_⟩
        · have wi : IntKind.i64.wrap ((n : Int) + 1) = ((n + 1 : Nat) : Int) := wrapP (i := n) (by unfold maxN; omega)
          have hs := rem_step (hcol.symm.trans h)
          show ACall _ _ _ _ _ _
          refine call_ret (Answer_spec k d u k1 k2 k3 k4) rfl ?_
          show ARound _ _ _ _
          exact ⟨⟨(n + 1, ansG k d u, ansC k d u, ansT d u), by show n + 1 ≤ 6; omega, hA.step, by show n + 1 + rem c (ansT d u) ≤ 6; rw [ansT_col hA.col.phase hA.col.epoch]; omega⟩, (by show 6 - (n + 1) < 6 - n; omega), [(0, 0), (1, 1), (2, 2)], (by repeat' first | exact .nil | refine .cons _ _ _ ?_ ?_ | exact .int_eq wi | exact .same | exact .c _ _ (.ptr _ _ _ _ rfl) | exact .c _ _ (.frz _ _ rfl)), .old 0 0 _ _ _ rfl rfl (.vars _ _ (LeL_refl rfl)) (.old 1 1 _ _ _ rfl rfl (.vars _ _ (LeL_refl rfl)) (.old 2 2 _ _ _ rfl rfl (.vars _ _ (LeL_refl rfl)) .nil)), rfl⟩
        · have hx : askedB d u = false := h
          have ul : u.live = true := hA.thr.live.trans (asked_of ha).1
          have up : u.pc = 0 := hA.thr.pc.trans (asked_of ha).2.2.1
          have ua : answeredB d u = true := by
            cases hz : answeredB d u with
            | true => rfl
            | false => rw [asked_mk ul hmay up hz] at hx; cases hx
          show ACall _ _ _ _ _ _
          refine call_ret (Asked_spec d u) rfl ?_
          rw [hx]
          show AIf _ _ _
          refine ⟨fun _ => ?_, fun h => absurd ⟨rfl, trivial⟩ h⟩
          show ACall _ _ _ _ _ _
          refine call_ret (hAll_spec d [u]) rfl ?_
          rw [show allB d [u] = true by rw [allB_one, ua, Bool.or_true]]
          have hlen : k.w.length = g.w.length := hA.len
          have hc : (bif !true then true else !decide ((k.w.length : Int) = (g.w.length : Int))) = false := by
            rw [decide_eq_true (show (k.w.length : Int) = (g.w.length : Int) by omega)]
            rfl
          show AIf ((bif !true then true else !decide ((k.w.length : Int) = (g.w.length : Int))) = false ∧ True) _ _
          refine ⟨fun _ => ?_, fun h => absurd ⟨hc, trivial⟩ h⟩
          show ACall _ _ _ _ _ _
          refine call_ret (May_spec u) rfl ?_
          rw [decide_eq_true hmay]
          show ABr _ _ _
          refine ⟨fun h => absurd h (by decide), fun _ => ?_⟩
          show ∃ n, _
          refine ⟨0, ALoop.inv (ι := {i : Nat // i ≤ g.w.length}) (fun q => ⟨[(3, .c (.d (.rp (g.enc)))), (4, .c (.d (.rp (c.enc)))), (5, .c (.d (.rp ((EK.enc .thread u))))), (9, .c (.d (.rp ((EK.enc .thread t))))), (10, .c (.d (.rp (k.enc)))), (11, .c (.d (.rp (d.enc)))), (13, .int (q.1))], [], 32⟩) (fun q => g.w.length - q.1) ⟨0, Nat.zero_le _⟩ ?_ ?_⟩
          · exact ⟨[], (by repeat' first | exact .nil | refine .cons _ _ _ ?_ ?_ | exact .same | exact .c _ _ (.own _ _ rfl) | exact .c _ _ (.ptr _ _ _ _ rfl) | exact .c _ _ (.frz _ _ rfl) | exact .any _), (by exact .nil), (by rfl)⟩
          rintro ⟨i, hi⟩
          show ABr (decide ((i : Int) < (g.w.length : Int))) _ _
          refine ⟨fun h => ?_, fun h => ?_⟩
          · have hlt : i < g.w.length := by simpa using h
            have hg130 : g.w.length ≤ most := f3.1
            have wi : IntKind.i64.wrap ((i : Int) + 1) = ((i + 1 : Nat) : Int) := wrapP (i := i) (by unfold most at hg130; unfold maxN; omega)
            show AOb ((0 : Int) ≤ (i : Int) ∧ (i : Int) < (k.w.length : Int)) _
            refine ⟨by omega, ?_⟩
            show AOb ((0 : Int) ≤ (i : Int) ∧ (i : Int) < (g.w.length : Int)) _
            refine ⟨by omega, ?_⟩
            show ABr (k.w.getD i default != g.w.getD i default) _ _
            refine ⟨fun h => ?_, fun h => ?_⟩
            · have w16 : IntKind.i64.wrap (16 + (i : Int)) = 16 + (i : Int) := by
                have := wrapP (i := 15 + i) (by unfold most at hg130; unfold maxN; omega)
                rw [show ((15 + i : Nat) : Int) + 1 = 16 + (i : Int) by omega, show ((15 + i + 1 : Nat) : Int) = 16 + (i : Int) by omega] at this
                exact this
              have hwh : whiteH g c (16 + (i : Int)) = true := decide_eq_true (hA.word i (bne_iff_ne.1 h))
              show ADCall _ _ _ _ _ _
              refine .mk _ _ (White_spec g c (IntKind.i64.wrap (16 + (i : Int))) f2) rfl ?_
              rw [show whiteH g c (IntKind.i64.wrap (16 + (i : Int))) = true by rw [w16]; exact hwh]
              show ABr _ _ _
              refine ⟨fun h => absurd h (by decide), fun _ => ?_⟩
              show ARound _ _ _ _
              exact ⟨⟨i + 1, hlt⟩, (by dsimp only; omega), [], (by repeat' first | exact .nil | refine .cons _ _ _ ?_ ?_ | exact .int_eq wi | exact .same | exact .c _ _ (.own _ _ rfl) | exact .c _ _ (.ptr _ _ _ _ rfl) | exact .c _ _ (.frz _ _ rfl) | exact .any _), (by exact .nil), (by rfl)⟩
            · show ABr _ _ _
              refine ⟨fun h => absurd h (by decide), fun _ => ?_⟩
              show ARound _ _ _ _
              exact ⟨⟨i + 1, hlt⟩, (by dsimp only; omega), [], (by repeat' first | exact .nil | refine .cons _ _ _ ?_ ?_ | exact .int_eq wi | exact .same | exact .c _ _ (.own _ _ rfl) | exact .c _ _ (.ptr _ _ _ _ rfl) | exact .c _ _ (.frz _ _ rfl) | exact .any _), (by exact .nil), (by rfl)⟩
          · have hs := hA.thr
            show ARet _ _ _
            refine ret_bo (x := bif bif bif bif (u.r0 == t.r0 && (u.r1 == t.r1 && (u.r2 == t.r2 && (u.r3 == t.r3 && true)))) then decide (u.pc = 0) else false then decide ((u.ops.length : Int) = (t.ops.length : Int)) else false then decide (d.phase = c.phase) else false then decide (d.epoch = c.epoch) else false) ?_ ⟨rfl, rfl⟩
            have q1 : u.r0 = t.r0 := hs.r0
            have q2 : u.r1 = t.r1 := hs.r1
            have q3 : u.r2 = t.r2 := hs.r2
            have q4 : u.r3 = t.r3 := hs.r3
            have q5 : u.ops = t.ops := hs.ops
            have q6 : d.phase = c.phase := hA.col.phase
            have q7 : d.epoch = c.epoch := hA.col.epoch
            rw [q1, q2, q3, q4, q5, q6, q7, up]
            simp
      · refine ⟨fun h => absurd (of_decide_eq_true h.1) (by omega), fun _ => ?_⟩
        have hx : askedB d u = false := hcol.trans (rem_zero hmay (by omega))
        show AOb _ _
        refine ⟨by simp; omega, ?_⟩
        show ABr _ _ _
        refine ⟨fun h => absurd h (by decide), fun _ => ?_⟩
        have ul : u.live = true := hA.thr.live.trans (asked_of ha).1
        have up : u.pc = 0 := hA.thr.pc.trans (asked_of ha).2.2.1
        have ua : answeredB d u = true := by
          cases hz : answeredB d u with
          | true => rfl
          | false => rw [asked_mk ul hmay up hz] at hx; cases hx
        show ACall _ _ _ _ _ _
        refine call_ret (Asked_spec d u) rfl ?_
        rw [hx]
        show AIf _ _ _
        refine ⟨fun _ => ?_, fun h => absurd ⟨rfl, trivial⟩ h⟩
        show ACall _ _ _ _ _ _
        refine call_ret (hAll_spec d [u]) rfl ?_
        rw [show allB d [u] = true by rw [allB_one, ua, Bool.or_true]]
        have hlen : k.w.length = g.w.length := hA.len
        have hc : (bif !true then true else !decide ((k.w.length : Int) = (g.w.length : Int))) = false := by
          rw [decide_eq_true (show (k.w.length : Int) = (g.w.length : Int) by omega)]
          rfl
        show AIf ((bif !true then true else !decide ((k.w.length : Int) = (g.w.length : Int))) = false ∧ True) _ _
        refine ⟨fun _ => ?_, fun h => absurd ⟨hc, trivial⟩ h⟩
        show ACall _ _ _ _ _ _
        refine call_ret (May_spec u) rfl ?_
        rw [decide_eq_true hmay]
        show ABr _ _ _
        refine ⟨fun h => absurd h (by decide), fun _ => ?_⟩
        show ∃ n, _
        refine ⟨0, ALoop.inv (ι := {i : Nat // i ≤ g.w.length}) (fun q => ⟨[(3, .c (.d (.rp (g.enc)))), (4, .c (.d (.rp (c.enc)))), (5, .c (.d (.rp ((EK.enc .thread u))))), (9, .c (.d (.rp ((EK.enc .thread t))))), (10, .c (.d (.rp (k.enc)))), (11, .c (.d (.rp (d.enc)))), (13, .int (q.1))], [], 32⟩) (fun q => g.w.length - q.1) ⟨0, Nat.zero_le _⟩ ?_ ?_⟩
        · exact ⟨[], (by repeat' first | exact .nil | refine .cons _ _ _ ?_ ?_ | exact .same | exact .c _ _ (.own _ _ rfl) | exact .c _ _ (.ptr _ _ _ _ rfl) | exact .c _ _ (.frz _ _ rfl) | exact .any _), (by exact .nil), (by rfl)⟩
        rintro ⟨i, hi⟩
        show ABr (decide ((i : Int) < (g.w.length : Int))) _ _
        refine ⟨fun h => ?_, fun h => ?_⟩
        · have hlt : i < g.w.length := by simpa using h
          have hg130 : g.w.length ≤ most := f3.1
          have wi : IntKind.i64.wrap ((i : Int) + 1) = ((i + 1 : Nat) : Int) := wrapP (i := i) (by unfold most at hg130; unfold maxN; omega)
          show AOb ((0 : Int) ≤ (i : Int) ∧ (i : Int) < (k.w.length : Int)) _
          refine ⟨by omega, ?_⟩
          show AOb ((0 : Int) ≤ (i : Int) ∧ (i : Int) < (g.w.length : Int)) _
          refine ⟨by omega, ?_⟩
          show ABr (k.w.getD i default != g.w.getD i default) _ _
          refine ⟨fun h => ?_, fun h => ?_⟩
          · have w16 : IntKind.i64.wrap (16 + (i : Int)) = 16 + (i : Int) := by
              have := wrapP (i := 15 + i) (by unfold most at hg130; unfold maxN; omega)
              rw [show ((15 + i : Nat) : Int) + 1 = 16 + (i : Int) by omega, show ((15 + i + 1 : Nat) : Int) = 16 + (i : Int) by omega] at this
              exact this
            have hwh : whiteH g c (16 + (i : Int)) = true := decide_eq_true (hA.word i (bne_iff_ne.1 h))
            show ADCall _ _ _ _ _ _
            refine .mk _ _ (White_spec g c (IntKind.i64.wrap (16 + (i : Int))) f2) rfl ?_
            rw [show whiteH g c (IntKind.i64.wrap (16 + (i : Int))) = true by rw [w16]; exact hwh]
            show ABr _ _ _
            refine ⟨fun h => absurd h (by decide), fun _ => ?_⟩
            show ARound _ _ _ _
            exact ⟨⟨i + 1, hlt⟩, (by dsimp only; omega), [], (by repeat' first | exact .nil | refine .cons _ _ _ ?_ ?_ | exact .int_eq wi | exact .same | exact .c _ _ (.own _ _ rfl) | exact .c _ _ (.ptr _ _ _ _ rfl) | exact .c _ _ (.frz _ _ rfl) | exact .any _), (by exact .nil), (by rfl)⟩
          · show ABr _ _ _
            refine ⟨fun h => absurd h (by decide), fun _ => ?_⟩
            show ARound _ _ _ _
            exact ⟨⟨i + 1, hlt⟩, (by dsimp only; omega), [], (by repeat' first | exact .nil | refine .cons _ _ _ ?_ ?_ | exact .int_eq wi | exact .same | exact .c _ _ (.own _ _ rfl) | exact .c _ _ (.ptr _ _ _ _ rfl) | exact .c _ _ (.frz _ _ rfl) | exact .any _), (by exact .nil), (by rfl)⟩
        · have hs := hA.thr
          show ARet _ _ _
          refine ret_bo (x := bif bif bif bif (u.r0 == t.r0 && (u.r1 == t.r1 && (u.r2 == t.r2 && (u.r3 == t.r3 && true)))) then decide (u.pc = 0) else false then decide ((u.ops.length : Int) = (t.ops.length : Int)) else false then decide (d.phase = c.phase) else false then decide (d.epoch = c.epoch) else false) ?_ ⟨rfl, rfl⟩
          have q1 : u.r0 = t.r0 := hs.r0
          have q2 : u.r1 = t.r1 := hs.r1
          have q3 : u.r2 = t.r2 := hs.r2
          have q4 : u.r3 = t.r3 := hs.r3
          have q5 : u.ops = t.ops := hs.ops
          have q6 : d.phase = c.phase := hA.col.phase
          have q7 : d.epoch = c.epoch := hA.col.epoch
          rw [q1, q2, q3, q4, q5, q6, q7, up]
          simp
end Go.Abs
