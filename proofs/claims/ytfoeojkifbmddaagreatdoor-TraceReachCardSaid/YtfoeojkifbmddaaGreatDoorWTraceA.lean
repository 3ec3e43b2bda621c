/- Walks: the example of going through what is grey; in any other phase a step changes nothing. -/
import Derived.Test.YtfoeojkifbmddaaGreatDoorWTraceL
set_option linter.all false
set_option linter.unusedVariables false
set_option linter.unusedSimpArgs false
namespace Go.Abs
open Go.Proofs Go.Proofs.YtfoeojkifbmddaaGreatDoor
set_option maxRecDepth 8000

def g16 : Hp := ⟨[33, 0, 24, 0, 0, 0, 0, 0, 41, 0, 0, 0, 0, 0, 0, 0], [⟨1, 2⟩], ⟨[], [], []⟩, [false, false]⟩
def c16 : Col := ⟨5, 1, false, [], false, 0, 0, 0, 0, false⟩
theorem v16 : (traceS g16 c16).2.phase = 6 ∧ (trN (shadeG g16 c16 16) (shadeC g16 c16 16) 20).2.phase = 6 ∧ headE (trN (shadeG g16 c16 16) (shadeC g16 c16 16) 20).1 24 = 0 ∧ (headH (trN (shadeG g16 c16 16) (shadeC g16 c16 16) 20).1 24).mark = 1 ∧ (headH (trN (shadeG g16 c16 16) (shadeC g16 c16 16) 20).1 24).done = true ∧
    decide (greyH (trN (shadeG g16 c16 16) (shadeC g16 c16 16) 20).1 (trN (shadeG g16 c16 16) (shadeC g16 c16 16) 20).2 = [] ∧ (trN (shadeG g16 c16 16) (shadeC g16 c16 16) 20).2.work = [] ∧ (trN (shadeG g16 c16 16) (shadeC g16 c16 16) 20).2.over = false ∧ (trN (shadeG g16 c16 16) (shadeC g16 c16 16) 20).2.at_ = 0 ∧ (trN (shadeG g16 c16 16) (shadeC g16 c16 16) 20).2.seek = 0) = true := by decide +kernel
theorem g16_light : g16.light := light_of (by decide) (by decide) (by decide)
theorem g16_small : g16.small := by unfold Hp.small most g16; decide

theorem trN_marks (g : Hp) (c : Col) (n : Nat) : Marks g (trN g c n).1 := by
  induction n with
  | zero => exact .refl g
  | succ n ih => exact ih.trans (trN_step g c n).marks
theorem trN_work (g : Hp) (c : Col) (h : c.work.length ≤ 100) (n : Nat) : (trN g c n).2.work.length ≤ 100 := by
  induction n with
  | zero => exact h
  | succ n ih => exact (trN_step g c n).work100 ih
theorem work16 {n : Nat} (h : n ≤ 100) : n < most := by unfold most; omega

set_option maxHeartbeats 2000000 in
theorem awake16_spec : Spec X 7 [] [] (Ret [] (.bo true)) := by
  refine spec_go X_ok Tryz.f7 (by kernel_rfl) (by kernel_rfl) (by kernel_rfl) fun hb hH => ⟨rfl, ?_⟩
  obtain ⟨v1, v2, v3, v4, v5, v6⟩ := v16
  show AOb ((0 : Int) ≤ 16 ∧ (16 : Int) ≤ 16 ∧ (16 : Int) ≤ (most : Int)) _
  refine ⟨by decide, ?_⟩
  show AOb ((0 : Int) ≤ 2 ∧ (2 : Int) ≤ 2 ∧ (2 : Int) ≤ (most : Int)) _
  refine ⟨by decide, ?_⟩
  show AOb _ _
  refine ⟨by decide, ?_⟩
  show AOb _ _
  refine ⟨by decide, ?_⟩
  show AOb _ _
  refine ⟨by decide, ?_⟩
  show AOb _ _
  refine ⟨by decide, ?_⟩
  show AOb _ _
  refine ⟨by decide, ?_⟩
  refine ⟨by decide, ?_⟩
  show ACall _ _ _ _ _ _
  refine .frz [64, 128, 160] [(224, .vars (g16.enc.map .d)), (704, .vars (c16.enc.map .d))] [g16.tv, c16.tv] _ rfl
    (.vars _ _ _ _ rfl rfl (.cons _ _ _ _ (.frz _ _ rfl) (.cons _ _ _ _ (.frz _ _ rfl) (.cons _ _ _ _ (.nilsl .int) (.cons _ _ _ _ (.nilsl .int) (.cons _ _ _ _ (.nilsl .int) (.cons _ _ _ _ (.frz _ _ rfl) .nil)))))) (.vars _ _ _ _ rfl rfl (.cons _ _ _ _ (.same _) (.cons _ _ _ _ (.same _) (.cons _ _ _ _ (.same _) (.cons _ _ _ _ (.nilsl .int) (.cons _ _ _ _ (.same _) (.cons _ _ _ _ (.same _) (.cons _ _ _ _ (.same _) (.cons _ _ _ _ (.same _) (.cons _ _ _ _ (.same _) (.cons _ _ _ _ (.same _) .nil)))))))))) .nil))
    (.cons _ _ _ _ (.agg _ _ (.cons _ _ _ _ (.frz _ _ rfl) (.cons _ _ _ _ (.frz _ _ rfl) (.cons _ _ _ _ (.nilsl .int) (.cons _ _ _ _ (.nilsl .int) (.cons _ _ _ _ (.nilsl .int) (.cons _ _ _ _ (.frz _ _ rfl) .nil))))))) (.cons _ _ _ _ (.agg _ _ (.cons _ _ _ _ (.same _) (.cons _ _ _ _ (.same _) (.cons _ _ _ _ (.same _) (.cons _ _ _ _ (.nilsl .int) (.cons _ _ _ _ (.same _) (.cons _ _ _ _ (.same _) (.cons _ _ _ _ (.same _) (.cons _ _ _ _ (.same _) (.cons _ _ _ _ (.same _) (.cons _ _ _ _ (.same _) .nil))))))))))) .nil)) rfl (tStep_spec g16 c16 g16_light g16_small (by decide)) ?_
  rintro H r ⟨rfl, rfl⟩ _ _
  have gl := shade_light g16_light c16 16
  show ACall _ _ _ _ _ _
  refine call_ret (Shade_spec g16 c16 16 g16_light g16_small (by decide)) rfl ?_
  show ∃ n, _
  refine ⟨0, ALoop.inv (ι := {i : Nat // i ≤ 20}) (fun q => ⟨[(1, .c (.ptr 0 0 0)), (2, .c (.ptr 1 0 0)), (4, .c (.d (.rp ((traceS g16 c16).2.enc)))), (5, .int (q.1))], [(0, .vars ((trN (shadeG g16 c16 16) (shadeC g16 c16 16) q.1).1.enc.map .d)), (1, .vars ((trN (shadeG g16 c16 16) (shadeC g16 c16 16) q.1).2.enc.map .d))], 96⟩) (fun q => 20 - q.1) ⟨0, by decide⟩ ?_ ?_⟩
  · exact ⟨[(224, 0), (704, 1)], (by repeat' first | exact .nil | refine .cons _ _ _ ?_ ?_ | exact .same | exact .c _ _ (.own _ _ rfl) | exact .c _ _ (.ptr _ _ _ _ rfl) | exact .c _ _ (.frz _ _ rfl) | exact .any _), (by exact .old 0 224 _ _ _ rfl rfl (.vars _ _ (LeL_refl rfl)) (.old 1 704 _ _ _ rfl rfl (.vars _ _ (LeL_refl rfl)) .nil)), (by rfl)⟩
  rintro ⟨i, hi⟩
  show ABr (decide ((i : Int) < 20)) _ _
  refine ⟨fun h => ?_, fun h => ?_⟩
  · have hlt : i < 20 := by have := of_decide_eq_true h; omega
    have wi : IntKind.i64.wrap ((i : Int) + 1) = ((i + 1 : Nat) : Int) := wrapP (i := i) (by unfold maxN; omega)
    have hM := trN_marks (shadeG g16 c16 16) (shadeC g16 c16 16) i
    have hW := trN_work (shadeG g16 c16 16) (shadeC g16 c16 16) (shadeC_work4 g16 c16 16 (by decide)) i
    show ACall _ _ _ _ _ _
    refine call_ret (tStep_spec (trN (shadeG g16 c16 16) (shadeC g16 c16 16) i).1 (trN (shadeG g16 c16 16) (shadeC g16 c16 16) i).2 (hM.light gl) (hM.small ((shade_marks g16 c16 16).small g16_small)) (work16 hW)) rfl ?_
    show ARound _ _ _ _
    exact ⟨⟨i + 1, hlt⟩, (by dsimp only; omega), [(0, 0), (1, 1)], (by repeat' first | exact .nil | refine .cons _ _ _ ?_ ?_ | exact .int_eq wi | exact .same | exact .c _ _ (.own _ _ rfl) | exact .c _ _ (.ptr _ _ _ _ rfl) | exact .c _ _ (.frz _ _ rfl) | exact .any _), (by exact .old 0 0 _ _ _ rfl rfl (.vars _ _ (LeL_refl rfl)) (.old 1 1 _ _ _ rfl rfl (.vars _ _ (LeL_refl rfl)) .nil)), (by rfl)⟩
  · obtain rfl : i = 20 := by have := of_decide_eq_false h; omega
    have hM := trN_marks (shadeG g16 c16 16) (shadeC g16 c16 16) 20
    show ACall _ _ _ _ _ _
    refine call_ret (hHead_spec (trN (shadeG g16 c16 16) (shadeC g16 c16 16) 20).1 24 (hM.light gl)) rfl ?_
    show AIf _ _ _
    refine ⟨fun _ => ?_, fun h => absurd ⟨?_, trivial⟩ h⟩
    · show ACall _ _ _ _ _ _
      refine call_ret (tOver_spec (trN (shadeG g16 c16 16) (shadeC g16 c16 16) 20).1 (trN (shadeG g16 c16 16) (shadeC g16 c16 16) 20).2 (hM.light gl)) rfl ?_
      rw [v6]
      show ARet _ _ _
      exact ret_d rfl ⟨rfl, rfl⟩
    · show (bif (bif (bif (bif ((traceS g16 c16).2.phase == 6) then ((trN (shadeG g16 c16 16) (shadeC g16 c16 16) 20).2.phase == 6) else false) then (headE (trN (shadeG g16 c16 16) (shadeC g16 c16 16) 20).1 24 == 0) else false) then ((headH (trN (shadeG g16 c16 16) (shadeC g16 c16 16) 20).1 24).mark == 1) else false) then (headH (trN (shadeG g16 c16 16) (shadeC g16 c16 16) 20).1 24).done else false) = true
      rw [v1, v2, v3, v4, v5]
      rfl

theorem few16_of {g : Hp} {c : Col} (h : few11 g c = true) : fewH g = true ∧ g.light ∧ g.small ∧ c.work.length ≤ 100 ∧ c.work.length < most := by
  unfold few11 at h
  rw [Bool.and_eq_true, decide_eq_true_eq] at h
  exact ⟨h.1, few_light h.1, few_small h.1, h.2, work16 h.2⟩

theorem put64 {g : Hp} (h : ∀ x ∈ g.w, I64 x) (a : Int) {v : Int} (hv : I64 v) : ∀ x ∈ (putH g a v).w, I64 x := by
  intro x hx
  rcases List.mem_or_eq_of_mem_set hx with e | e
  · exact h x e
  · rw [e]; exact hv
theorem word64 {x : Hd} (h : x.May) : I64 x.word := by
  have := word_range h
  unfold I64
  omega
theorem shade64 {g : Hp} (h : ∀ x ∈ g.w, I64 x) (c : Col) (a : Int) : ∀ x ∈ (shadeG g c a).w, I64 x := by
  unfold shadeG
  by_cases e : atK g c a = 1
  · rw [decide_eq_true e]
    obtain ⟨_, h1, h2⟩ := mark_may e
    show ∀ x ∈ (setH g a (markH g c a)).w, I64 x
    rw [setH_yes h2]
    exact put64 h a (word64 h1.xmay)
  · rw [decide_eq_false e]; exact h
theorem black64 {g : Hp} (h : ∀ x ∈ g.w, I64 x) (c : Col) (a : Int) : ∀ x ∈ (blackG g c a).w, I64 x := by
  unfold blackG
  by_cases e : atK g c a = 2
  · rw [decide_eq_true e]
    obtain ⟨_, h1, h2⟩ := done_may e
    show ∀ x ∈ (setH g a (doneH g a)).w, I64 x
    rw [setH_yes h2]
    exact put64 h a (word64 h1.xmay)
  · rw [decide_eq_false e]; exact h
theorem TStep.w64 {g k : Hp} {c d : Col} (h : TStep g c k d) (hw : ∀ x ∈ g.w, I64 x) : ∀ x ∈ k.w, I64 x := by
  cases h
  case last v hv => exact black64 (shade64 hw c v) c c.at_
  case more v hv => exact shade64 hw c v
  all_goals exact hw

theorem TraceKnows_spec (g : Hp) (hw : ∀ x ∈ g.w, I64 x) (c : Col) : Spec X 3 [] [g.tv, c.tv] (Ret [] (.bo true)) := by
  refine spec_go X_ok Tryz.f3 (by kernel_rfl) (by kernel_rfl) (by kernel_rfl) fun hb hH => ⟨rfl, ?_⟩
  show ACall _ _ _ _ _ _
  refine call_ret (awake16_spec) rfl ?_
  show ACall _ _ _ _ _ _
  refine call_ret (few16_spec g c) rfl ?_
  cases hf : few11 g c with
  | false =>
    show AIf _ _ _
    refine ⟨fun h => absurd h.1 (by simp), fun _ => ?_⟩
    show AOb _ _
    refine ⟨by simp, ?_⟩
    show AIf _ _ _
    refine ⟨fun h => absurd h.1 (by decide), fun _ => ?_⟩
    show AOb _ _
    refine ⟨by decide, ?_⟩
    show ABr _ _ _
    refine ⟨fun _ => ?_, fun h => absurd h (by decide)⟩
    show ARet _ _ _
    exact ret_d rfl ⟨rfl, rfl⟩
  | true =>
    obtain ⟨f1, f2, f3, f4, f5⟩ := few16_of hf
    have f6 : c.work.length ≤ maxN := by unfold maxN; omega
    show AIf ((bif (bif !true then true else !true) then true else !decide (c.phase = 5)) = false ∧ True) _ _
    by_cases hp : c.phase = 5
    · rw [decide_eq_true hp]
      show AIf _ _ _
      refine ⟨fun _ => ?_, fun h => absurd ⟨(by rfl), trivial⟩ h⟩
      show ACall _ _ _ _ _ _
      refine call_ret (hHMay0_spec g f2) rfl ?_
      cases hm : mayH g [] with
      | false =>
        show AIf _ _ _
        refine ⟨fun h => absurd h.1 (by decide), fun _ => ?_⟩
        show AOb _ _
        refine ⟨by decide, ?_⟩
        show ABr _ _ _
        refine ⟨fun _ => ?_, fun h => absurd h (by decide)⟩
        show ARet _ _ _
        exact ret_d rfl ⟨rfl, rfl⟩
      | true =>
        show AIf _ _ _
        refine ⟨fun _ => ?_, fun h => absurd ⟨(by rfl), trivial⟩ h⟩
        show ACall _ _ _ _ _ _
        refine call_ret (tKnown_spec g c f2 hw f6) rfl ?_
        cases hk : knownB g c with
        | false =>
          show ABr _ _ _
          refine ⟨fun _ => ?_, fun h => absurd h (by decide)⟩
          show ARet _ _ _
          exact ret_d rfl ⟨rfl, rfl⟩
        | true =>
          show ABr _ _ _
          refine ⟨fun h => absurd h (by decide), fun _ => ?_⟩
          show ACall _ _ _ _ _ _
          refine call_ret (hHead_spec g c.at_ f2) rfl ?_
          show ABr (bif decide (headE g c.at_ = 0) then bif decide (c.field_ < 0) then true else decide (c.field_ ≥ (headH g c.at_).n) else false) _ _
          refine ⟨fun h => ?_, fun h => ?_⟩
          · show ARet _ _ _
            exact ret_d rfl ⟨rfl, rfl⟩
          · have hin : atK g c c.at_ = 2 → 0 ≤ c.field_ ∧ c.field_ < (headH g c.at_).n := fun h2 => by
              have h0 : headE g c.at_ = 0 := atK_ne (c := c) (by omega)
              rw [decide_eq_true h0] at h
              by_cases h1 : c.field_ < 0
              · rw [decide_eq_true h1] at h; exact absurd h (by simp)
              · rw [decide_eq_false h1] at h
                have h : decide (c.field_ ≥ (headH g c.at_).n) = false := h
                have := of_decide_eq_false h
                omega
            have hs := trace_step g c
            have hk2 := hs.known hk hin
            have hM := hs.marks
            show ACall _ _ _ _ _ _
            refine call_ret (tStep_spec g c f2 f3 f5) rfl ?_
            show ACall _ _ _ _ _ _
            refine call_ret (tKnown_spec (traceS g c).1 (traceS g c).2 (hM.light f2) (hs.w64 hw) (by have := hs.work100 f4; unfold maxN; omega)) rfl ?_
            rw [hk2]
            show ABr _ _ _
            refine ⟨fun h => absurd h (by decide), fun _ => ?_⟩
            show AIf ((!decide ((traceS g c).2.phase = 6)) = false ∧ True) _ _
            by_cases hd : (traceS g c).2.phase = 6
            · rw [decide_eq_true hd]
              show AIf _ _ _
              refine ⟨fun _ => ?_, fun h => absurd ⟨(by rfl), trivial⟩ h⟩
              show ACall _ _ _ _ _ _
              refine call_ret (Grey_spec (traceS g c).1 (traceS g c).2 (hM.light f2)) rfl ?_
              obtain ⟨z1, z2, z3, z4⟩ := hs.fin6 hp hd
              rw [known_none hk2 z1 z2 z3 z4]
              show ARet _ _ _
              exact ret_d rfl ⟨rfl, rfl⟩
            · rw [decide_eq_false hd]
              show AIf _ _ _
              refine ⟨fun h => absurd h.1 (by simp [hd]), fun _ => ?_⟩
              show AOb _ _
              refine ⟨by simp [hd], ?_⟩
              show ARet _ _ _
              exact ret_d rfl ⟨rfl, rfl⟩
    · rw [decide_eq_false hp]
      show AIf _ _ _
      refine ⟨fun h => absurd h.1 (by simp [hp]), fun _ => ?_⟩
      show AOb _ _
      refine ⟨by simp [hp], ?_⟩
      show AIf _ _ _
      refine ⟨fun h => absurd h.1 (by decide), fun _ => ?_⟩
      show AOb _ _
      refine ⟨by decide, ?_⟩
      show ABr _ _ _
      refine ⟨fun _ => ?_, fun h => absurd h (by decide)⟩
      show ARet _ _ _
      exact ret_d rfl ⟨rfl, rfl⟩

theorem trace_idle {g : Hp} {c : Col} (h : ¬ (mayH g [] = true ∧ c.phase = 5)) : traceS g c = (g, c) := by unfold traceS; rw [if_neg h]

end Go.Abs
