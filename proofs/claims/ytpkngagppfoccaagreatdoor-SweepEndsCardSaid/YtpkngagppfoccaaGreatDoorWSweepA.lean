/- Walks: the example of sweeping; what a step does not change, what becomes of an object. -/
import Derived.Test.YtpkngagppfoccaaGreatDoorWSweepK
import Derived.Test.YtpkngagppfoccaaGreatDoorWRef11
import Derived.Test.YtpkngagppfoccaaGreatDoorWSame07
set_option linter.all false
set_option linter.unusedVariables false
set_option linter.unusedSimpArgs false
namespace Go.Abs
open Go.Proofs Go.Proofs.YtpkngagppfoccaaGreatDoor
set_option maxRecDepth 8000

def swN (g : Hp) (c : Col) : Nat → Hp × Col
  | 0 => (g, c)
  | n + 1 => sweepS (swN g c n).1 (swN g c n).2
theorem swN_ok (g : Hp) (c : Col) (hl : g.light) (hs : g.small) (h : c.work.length ≤ 100) : ∀ n, (swN g c n).1.light ∧ (swN g c n).1.small ∧ (swN g c n).2.work.length ≤ 100
  | 0 => ⟨hl, hs, h⟩
  | n + 1 => by
    obtain ⟨h1, h2, h3⟩ := swN_ok g c hl hs h n
    have s := sweep_step (swN g c n).1 (swN g c n).2
    refine ⟨s.light h1, s.small h2, ?_⟩
    show (sweepS (swN g c n).1 (swN g c n).2).2.work.length ≤ 100
    rcases s.work with e | e <;> rw [e]
    · exact h3
    · exact Nat.zero_le _

def g18 : Hp := ⟨[33, 0, 0, 0, 0, 0, 0, 0, 4294967337, 0, 0, 0, 0, 0, 0, 0], [⟨1, 2⟩], ⟨[], [], []⟩, [false, false]⟩
def c18 : Col := ⟨6, 1, false, [], false, 0, 0, 0, 0, false⟩
theorem v18 : fateH g18 c18 16 = 1 ∧ fateH g18 c18 24 = 2 ∧ headE (swN g18 c18 10).1 24 = 0 ∧ headE (swN g18 c18 10).1 16 = 3 ∧ (headH (swN g18 c18 10).1 24).old = true ∧ (swN g18 c18 10).2.phase = 0 ∧ isDirty (swN g18 c18 10).1 24 = true := by decide +kernel
theorem g18_light : g18.light := light_of (by decide) (by decide) (by decide)
theorem g18_small : g18.small := by unfold Hp.small most g18; decide
theorem work18 {n : Nat} (h : n ≤ 100) : n ≤ most := by unfold most; omega

set_option maxHeartbeats 2000000 in
theorem awake18_spec : Spec X 9 [] [] (Ret [] (.bo true)) := by
  refine spec_go X_ok Tryz.f9 (by kernel_rfl) (by kernel_rfl) (by kernel_rfl) fun hb hH => ⟨rfl, ?_⟩
  obtain ⟨v1, v2, v3, v4, v5, v6, v7⟩ := v18
  show AOb ((0 : Int) ≤ 16 ∧ (16 : Int) ≤ 16 ∧ (16 : Int) ≤ (most : Int)) _
  refine ⟨by decide, ?_⟩
  show AOb _ _
  refine ⟨by decide, ?_⟩
  show AOb _ _
  refine ⟨by decide, ?_⟩
  show AOb _ _
  refine ⟨by decide, ?_⟩
  show AOb _ _
  refine ⟨by decide, ?_⟩
  refine ⟨by decide, ?_⟩
  show ACall _ _ _ _ _ _
  refine .frz [64, 128, 160] [(224, .vars (g18.enc.map .d)), (576, .vars (c18.enc.map .d))] [g18.tv, c18.tv, .int 16] _ rfl
    (.vars _ _ _ _ rfl rfl (.cons _ _ _ _ (.frz _ _ rfl) (.cons _ _ _ _ (.frz _ _ rfl) (.cons _ _ _ _ (.nilsl .int) (.cons _ _ _ _ (.nilsl .int) (.cons _ _ _ _ (.nilsl .int) (.cons _ _ _ _ (.frz _ _ rfl) .nil)))))) (.vars _ _ _ _ rfl rfl (.cons _ _ _ _ (.same _) (.cons _ _ _ _ (.same _) (.cons _ _ _ _ (.same _) (.cons _ _ _ _ (.nilsl .int) (.cons _ _ _ _ (.same _) (.cons _ _ _ _ (.same _) (.cons _ _ _ _ (.same _) (.cons _ _ _ _ (.same _) (.cons _ _ _ _ (.same _) (.cons _ _ _ _ (.same _) .nil)))))))))) .nil))
    (.cons _ _ _ _ (.agg _ _ (.cons _ _ _ _ (.frz _ _ rfl) (.cons _ _ _ _ (.frz _ _ rfl) (.cons _ _ _ _ (.nilsl .int) (.cons _ _ _ _ (.nilsl .int) (.cons _ _ _ _ (.nilsl .int) (.cons _ _ _ _ (.frz _ _ rfl) .nil))))))) (.cons _ _ _ _ (.agg _ _ (.cons _ _ _ _ (.same _) (.cons _ _ _ _ (.same _) (.cons _ _ _ _ (.same _) (.cons _ _ _ _ (.nilsl .int) (.cons _ _ _ _ (.same _) (.cons _ _ _ _ (.same _) (.cons _ _ _ _ (.same _) (.cons _ _ _ _ (.same _) (.cons _ _ _ _ (.same _) (.cons _ _ _ _ (.same _) .nil))))))))))) (.cons _ _ _ _ (.c _ _ (.same _)) .nil))) rfl (Fate_spec g18 c18 16 g18_light) ?_
  rintro H r ⟨rfl, rfl⟩ _ _
  rw [v1]
  show AIf _ _ _
  refine ⟨fun _ => ?_, fun h => absurd ⟨(by rfl), trivial⟩ h⟩
  have fs := Fate_spec g18 c18 24 g18_light
  rw [v2] at fs
  show ACall _ _ _ _ _ _
  refine call_ret (fs) rfl ?_
  show ∃ n, _
  refine ⟨0, ALoop.inv (ι := {i : Nat // i ≤ 10}) (fun q => ⟨[(1, .c (.ptr 0 0 0)), (2, .c (.ptr 1 0 0)), (3, .bo (true)), (4, .int (q.1))], [(0, .vars ((swN g18 c18 q.1).1.enc.map .d)), (1, .vars ((swN g18 c18 q.1).2.enc.map .d))], 96⟩) (fun q => 10 - q.1) ⟨0, by decide⟩ ?_ ?_⟩
  · exact ⟨[(224, 0), (576, 1)], (by repeat' first | exact .nil | refine .cons _ _ _ ?_ ?_ | exact .same | exact .c _ _ (.own _ _ rfl) | exact .c _ _ (.ptr _ _ _ _ rfl) | exact .c _ _ (.frz _ _ rfl) | exact .any _), (by exact .old 0 224 _ _ _ rfl rfl (.vars _ _ (LeL_refl rfl)) (.old 1 576 _ _ _ rfl rfl (.vars _ _ (LeL_refl rfl)) .nil)), (by rfl)⟩
  rintro ⟨i, hi⟩
  show ABr (decide ((i : Int) < 10)) _ _
  refine ⟨fun h => ?_, fun h => ?_⟩
  · have hlt : i < 10 := by have := of_decide_eq_true h; omega
    have wi : IntKind.i64.wrap ((i : Int) + 1) = ((i + 1 : Nat) : Int) := wrapP (i := i) (by unfold maxN; omega)
    obtain ⟨k1, k2, k3⟩ := swN_ok g18 c18 g18_light g18_small (by decide) i
    show ACall _ _ _ _ _ _
    refine call_ret (swStep_spec (swN g18 c18 i).1 (swN g18 c18 i).2 k1 k2 (work18 k3)) rfl ?_
    show ARound _ _ _ _
    exact ⟨⟨i + 1, hlt⟩, (by dsimp only; omega), [(0, 0), (1, 1)], (by repeat' first | exact .nil | refine .cons _ _ _ ?_ ?_ | exact .int_eq wi | exact .same | exact .c _ _ (.own _ _ rfl) | exact .c _ _ (.ptr _ _ _ _ rfl) | exact .c _ _ (.frz _ _ rfl) | exact .any _), (by exact .old 0 0 _ _ _ rfl rfl (.vars _ _ (LeL_refl rfl)) (.old 1 1 _ _ _ rfl rfl (.vars _ _ (LeL_refl rfl)) .nil)), (by rfl)⟩
  · obtain rfl : i = 10 := by have := of_decide_eq_false h; omega
    obtain ⟨k1, k2, k3⟩ := swN_ok g18 c18 g18_light g18_small (by decide) 10
    show ACall _ _ _ _ _ _
    refine call_ret (hHead_spec (swN g18 c18 10).1 24 k1) rfl ?_
    show ACall _ _ _ _ _ _
    refine call_ret (hHead_spec (swN g18 c18 10).1 16 k1) rfl ?_
    show AIf _ _ _
    refine ⟨fun _ => ?_, fun h => absurd ⟨(by simp [v3, v4, v5, v6]), trivial⟩ h⟩
    show ACall _ _ _ _ _ _
    refine call_ret (Is_spec (swN g18 c18 10).1 24 k1 (by decide)) rfl ?_
    show ARet _ _ _
    refine ret_bo (x := isDirty (swN g18 c18 10).1 24) v7 ⟨rfl, rfl⟩

theorem few18_spec (g : Hp) (c : Col) : Spec X 10 [] [g.tv, c.tv] (Ret [] (.bo (few11 g c))) := by
  refine spec_go X_ok Tryz.f10 (by kernel_rfl) (by kernel_rfl) (by kernel_rfl) fun hb hH => ⟨rfl, ?_⟩
  show ACall _ _ _ _ _ _
  refine call_ret (Few_spec g) rfl ?_
  show ARet _ _ _
  refine ret_bo (x := bif fewH g then decide ((c.work.length : Int) ≤ 100) else false) ?_ ⟨rfl, rfl⟩
  unfold few11
  have e : decide ((c.work.length : Int) ≤ 100) = decide (c.work.length ≤ 100) := by rw [decide_eq_decide]; omega
  rw [e]
  cases fewH g <;> rfl
theorem few18_of {g : Hp} {c : Col} (h : few11 g c = true) : fewH g = true ∧ g.light ∧ g.small ∧ c.work.length ≤ 100 ∧ c.work.length ≤ most := by
  unfold few11 at h
  rw [Bool.and_eq_true, decide_eq_true_eq] at h
  exact ⟨h.1, few_light h.1, few_small h.1, h.2, work18 h.2⟩

theorem sweep_idle {g : Hp} {c : Col} (h : ¬ (mayH g [] = true ∧ c.phase = 6)) : sweepS g c = (g, c) := by
  unfold sweepS; rw [if_neg h]
theorem fate_nobody {g : Hp} {a : Int} (h : roomAt g.pages a = 0) (c : Col) : fateH g c a = 0 := by
  unfold fateH
  rw [if_pos (.inl fun k => (headE_of k).2.1 h)]
theorem room_low (l : List Page) {a : Int} (h : a < 16) : roomAt l a = 0 := by
  apply Classical.byContradiction
  intro hr
  have := (cell_end (roomAt_pos hr)).1
  have : 16 ≤ a := this
  omega
theorem room_17 (l : List Page) : roomAt l 17 = 0 := by
  apply Classical.byContradiction
  intro hr
  obtain ⟨hm, j, hj⟩ := cellOf_mem (roomAt_pos hr)
  have h1 : (17 : Int) / 16 - 1 = (j : Int) := hj.div
  rcases mem_cellsOn ((mayP_ok hm).1 j hj.lt) hj.mem with ⟨hk, _, k, k1, k2⟩ | ⟨_, k⟩
  · have hc := ((mayP_ok hm).1 j hj.lt).1 hk
    have k2 : (17 : Int) = 16 * ((j : Int) + 1) + k * clsW (l.getD j default).arg := k2
    rcases clsWN hc with ⟨w, _⟩ | ⟨w, _⟩ | ⟨w, _⟩ <;> rw [w] at k2 <;> omega
  · have := congrArg Prod.fst k
    have : (17 : Int) = 16 * ((j : Int) + 1) := this
    omega

theorem SweepIdle_spec (g : Hp) (c : Col) : Spec X 5 [] [g.tv, c.tv] (Ret [] (.bo true)) := by
  refine spec_go X_ok Tryz.f5 (by kernel_rfl) (by kernel_rfl) (by kernel_rfl) fun hb hH => ⟨rfl, ?_⟩
  show ACall _ _ _ _ _ _
  refine call_ret (awake18_spec) rfl ?_
  show ACall _ _ _ _ _ _
  refine call_ret (few18_spec g c) rfl ?_
  cases hf : few11 g c with
  | false =>
    show AIf _ _ _
    refine ⟨fun h => absurd h.2.1 (by decide), fun _ => ?_⟩
    show AOb _ _
    refine ⟨by exact fun h => absurd h.1 (by decide), ?_⟩
    show ABr _ _ _
    refine ⟨fun _ => ?_, fun h => absurd h (by simp)⟩
    show ARet _ _ _
    exact ret_d rfl ⟨rfl, rfl⟩
  | true =>
    obtain ⟨f1, f2, f3, f4, f5⟩ := few18_of hf
    show AIf (decide (c.phase = 6) = true ∧ (bif !true then true else !true) = false ∧ True) _ _
    by_cases hp : c.phase = 6
    · refine ⟨fun _ => ?_, fun h => absurd ⟨decide_eq_true hp, rfl, trivial⟩ h⟩
      show ACall _ _ _ _ _ _
      refine call_ret (hHMay0_spec g f2) rfl ?_
      cases hm : mayH g [] with
      | true =>
        show ABr _ _ _
        refine ⟨fun _ => ?_, fun h => absurd h (by decide)⟩
        show ARet _ _ _
        exact ret_d rfl ⟨rfl, rfl⟩
      | false =>
        show ABr _ _ _
        refine ⟨fun h => absurd h (by decide), fun _ => ?_⟩
        have hn : ¬ (mayH g [] = true ∧ c.phase = 6) := fun k => by rw [hm] at k; exact absurd k.1 (by decide)
        show ACall _ _ _ _ _ _
        refine call_ret (swStep_spec g c f2 f3 f5) rfl ?_
        rw [sweep_idle hn]
        show ACall _ _ _ _ _ _
        refine call_ret (hSame_spec g g) rfl ?_
        rw [decide_eq_true (show g = g from rfl)]
        show AIf _ _ _
        refine ⟨fun _ => ?_, fun h => absurd ⟨(by rfl), trivial⟩ h⟩
        show ACall _ _ _ _ _ _
        refine call_ret (cSame_spec c c) rfl ?_
        rw [decide_eq_true (show c = c from rfl)]
        show AIf _ _ _
        refine ⟨fun _ => ?_, fun h => absurd ⟨(by rfl), trivial⟩ h⟩
        have q0 := Fate_spec g c 0 f2
        rw [fate_nobody (room_low g.pages (by decide)) c] at q0
        have q17 := Fate_spec g c 17 f2
        rw [fate_nobody (room_17 g.pages) c] at q17
        show ACall _ _ _ _ _ _
        refine call_ret (q0) rfl ?_
        show AIf _ _ _
        refine ⟨fun _ => ?_, fun h => absurd ⟨(by rfl), trivial⟩ h⟩
        show ACall _ _ _ _ _ _
        refine call_ret (q17) rfl ?_
        show ARet _ _ _
        exact ret_d rfl ⟨rfl, rfl⟩
    · refine ⟨fun h => absurd h.1 (by rw [decide_eq_false hp]; decide), fun _ => ?_⟩
      show AOb _ _
      refine ⟨by exact fun _ => decide_eq_false hp, ?_⟩
      have hn : ¬ (mayH g [] = true ∧ c.phase = 6) := fun k => hp k.2
      show ABr _ _ _
      refine ⟨fun h => absurd h (by decide), fun _ => ?_⟩
      show ACall _ _ _ _ _ _
      refine call_ret (swStep_spec g c f2 f3 f5) rfl ?_
      rw [sweep_idle hn]
      show ACall _ _ _ _ _ _
      refine call_ret (hSame_spec g g) rfl ?_
      rw [decide_eq_true (show g = g from rfl)]
      show AIf _ _ _
      refine ⟨fun _ => ?_, fun h => absurd ⟨(by rfl), trivial⟩ h⟩
      show ACall _ _ _ _ _ _
      refine call_ret (cSame_spec c c) rfl ?_
      rw [decide_eq_true (show c = c from rfl)]
      show AIf _ _ _
      refine ⟨fun _ => ?_, fun h => absurd ⟨(by rfl), trivial⟩ h⟩
      have q0 := Fate_spec g c 0 f2
      rw [fate_nobody (room_low g.pages (by decide)) c] at q0
      have q17 := Fate_spec g c 17 f2
      rw [fate_nobody (room_17 g.pages) c] at q17
      show ACall _ _ _ _ _ _
      refine call_ret (q0) rfl ?_
      show AIf _ _ _
      refine ⟨fun _ => ?_, fun h => absurd ⟨(by rfl), trivial⟩ h⟩
      show ACall _ _ _ _ _ _
      refine call_ret (q17) rfl ?_
      show ARet _ _ _
      exact ret_d rfl ⟨rfl, rfl⟩

theorem fate_white {g : Hp} {c : Col} {a : Int} (hE : headE g a = 0) (h1 : 0 ≤ c.epoch ∧ c.epoch ≤ 1048576) : (fateH g c a = 1) ↔ atK g c a = 1 := by
  unfold fateH atK colour
  rw [decide_eq_true hE, decide_eq_false (show ¬ c.epoch < 0 by omega), decide_eq_false (show ¬ c.epoch > 1048576 by omega)]
  cases ho : (headH g a).old <;> cases hm : c.major <;> by_cases h2 : (headH g a).mark < c.epoch <;> simp [hE, h2] <;> cases (headH g a).done <;> simp <;> split <;> omega

theorem fate_two {g : Hp} {c : Col} {a : Int} (h : fateH g c a = 2) : (headH g a).old = false ∧ (headH g a).born < c.epoch := by
  unfold fateH at h
  split at h
  · omega
  · split at h
    · omega
    · split at h
      · assumption
      · omega
theorem fate_old {g : Hp} {c : Col} {a : Int} (h : (headH g a).old = true) (h2 : c.major = false) : fateH g c a = 0 := by
  unfold fateH
  rw [if_pos (.inr ⟨h, h2⟩)]

theorem SweepFates_spec (g : Hp) (hw : ∀ x ∈ g.w, I64 x) (c : Col) (a : Int) : Spec X 4 [] [g.tv, c.tv, .int a] (Ret [] (.bo true)) := by
  refine spec_go X_ok Tryz.f4 (by kernel_rfl) (by kernel_rfl) (by kernel_rfl) fun hb hH => ⟨rfl, ?_⟩
  show ACall _ _ _ _ _ _
  refine call_ret (awake18_spec) rfl ?_
  show ACall _ _ _ _ _ _
  refine call_ret (few18_spec g c) rfl ?_
  by_cases hf : few11 g c = true ∧ 0 ≤ c.epoch ∧ c.epoch ≤ 1048576
  · obtain ⟨hf, h1, h2⟩ := hf
    rw [hf]
    obtain ⟨f1, f2, f3, f4, f5⟩ := few18_of hf
    show ABr (bif bif bif !true then true else !true then true else decide (c.epoch < 0) then true else decide (c.epoch > 1048576)) _ _
    rw [decide_eq_false (show ¬ c.epoch < 0 by omega), decide_eq_false (show ¬ c.epoch > 1048576 by omega)]
    show ABr _ _ _
    refine ⟨fun h => absurd h (by decide), fun _ => ?_⟩
    show ACall _ _ _ _ _ _
    refine call_ret (Fate_spec g c a f2) rfl ?_
    show ACall _ _ _ _ _ _
    refine call_ret (hHead_spec g a f2) rfl ?_
    show ABr (headE g a != 0) _ _
    by_cases hE : headE g a = 0
    · rw [show (headE g a != 0) = false by rw [hE]; rfl]
      show ABr _ _ _
      refine ⟨fun h => absurd h (by decide), fun _ => ?_⟩
      show ACall _ _ _ _ _ _
      refine call_ret (rColour_spec g c a f2 hw) rfl ?_
      show ABr (bif (bif (bif decide (fateH g c a < 0) then true else decide (fateH g c a > 2)) then true else (fateH g c a == 1) != (atK g c a == 1)) then true else (bif fateH g c a == 2 then (bif (headH g a).old then true else decide ((headH g a).born ≥ c.epoch)) else false)) _ _
      have hq : (bif (bif (bif decide (fateH g c a < 0) then true else decide (fateH g c a > 2)) then true else (fateH g c a == 1) != (atK g c a == 1)) then true else (bif fateH g c a == 2 then (bif (headH g a).old then true else decide ((headH g a).born ≥ c.epoch)) else false)) = false := by
        have hwh := fate_white (c := c) hE ⟨h1, h2⟩
        have e1 : ((fateH g c a == 1) != (atK g c a == 1)) = false := by
          by_cases k : fateH g c a = 1
          · rw [k, hwh.1 k]; rfl
          · have k2 : atK g c a ≠ 1 := fun q => k (hwh.2 q)
            rw [show (fateH g c a == 1) = false by simpa using k, show (atK g c a == 1) = false by simpa using k2]; rfl
        rw [e1]
        rcases fateH_cases g c a with k | ⟨k, _⟩ | ⟨k, _⟩ <;> rw [k]
        · rfl
        · rfl
        · obtain ⟨q1, q2⟩ := fate_two k
          rw [q1, decide_eq_false (show ¬ (headH g a).born ≥ c.epoch by omega)]
          rfl
      rw [hq]
      show ABr _ _ _
      refine ⟨fun h => absurd h (by decide), fun _ => ?_⟩
      show ARet _ _ _
      refine ret_bo (x := bif (bif !(headH g a).old then true else c.major) then true else fateH g c a == 0) ?_ ⟨rfl, rfl⟩
      cases ho : (headH g a).old with
      | false => rfl
      | true =>
        cases hm : c.major with
        | true => rfl
        | false => rw [fate_old ho hm]; rfl
    · rw [show (headE g a != 0) = true by simpa using hE]
      show ABr _ _ _
      refine ⟨fun _ => ?_, fun h => absurd h (by decide)⟩
      have hz : fateH g c a = 0 := by unfold fateH; rw [if_pos (.inl hE)]
      show ARet _ _ _
      refine ret_bo (x := fateH g c a == 0) ?_ ⟨rfl, rfl⟩
      rw [hz]; rfl
  · have hq : (bif bif bif !true then true else !few11 g c then true else decide (c.epoch < 0) then true else decide (c.epoch > 1048576)) = true := by
      cases hf' : few11 g c with
      | false => rfl
      | true =>
        by_cases k : c.epoch < 0
        · rw [decide_eq_true k]; rfl
        · rw [decide_eq_false k, decide_eq_true (show c.epoch > 1048576 from Classical.byContradiction fun q => hf ⟨hf', by omega, by omega⟩)]; rfl
    show ABr (bif bif bif !true then true else !few11 g c then true else decide (c.epoch < 0) then true else decide (c.epoch > 1048576)) _ _
    rw [hq]
    show ABr _ _ _
    refine ⟨fun _ => ?_, fun h => absurd h (by decide)⟩
    show ARet _ _ _
    exact ret_d rfl ⟨rfl, rfl⟩
end Go.Abs
