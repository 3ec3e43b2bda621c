/- Walks: the example of sweeping; what a step does not change, what becomes of an object. -/
import Derived.Test.YtpkngagppfoccaaGreatDoorWSweepK
import Derived.Test.YtpkngagppfoccaaGreatDoorWRef11
import Derived.Test.YtpkngagppfoccaaGreatDoorWSame07
set_option linter.all false
set_option linter.unusedVariables false
set_option linter.unusedSimpArgs false
namespace Go.Abs
open Go.Proofs Go.Proofs.YtpkngagppfoccaaGreatDoor
set_option maxRecDepth 8000

def swN (g : Hp) (c : Col) : Nat → Hp × Col
  | 0 => (g, c)
  | n + 1 => sweepS (swN g c n).1 (swN g c n).2
theorem swN_ok (g : Hp) (c : Col) (hl : g.light) (hs : g.small) (h : c.work.length ≤ 100) : ∀ n, (swN g c n).1.light ∧ (swN g c n).1.small ∧ (swN g c n).2.work.length ≤ 100
  | 0 => ⟨hl, hs, h⟩
  | n + 1 => by
    obtain ⟨h1, h2, h3⟩ := swN_ok g c hl hs h n
    have s := sweep_step (swN g c n).1 (swN g c n).2
    refine ⟨s.light h1, s.small h2, ?_⟩
    show (sweepS (swN g c n).1 (swN g c n).2).2.work.length ≤ 100
    rcases s.work with e | e <;> rw [e]
    · exact h3
    · exact Nat.zero_le _

def g18 : Hp := ⟨[33, 0, 0, 0, 0, 0, 0, 0, 4294967337, 0, 0, 0, 0, 0, 0, 0], [⟨1, 2⟩], ⟨[], [], []⟩, [false, false]⟩
def c18 : Col := ⟨6, 1, false, [], false, 0, 0, 0, 0, false⟩
theorem v18 : fateH g18 c18 16 = 1 ∧ fateH g18 c18 24 = 2 ∧ headE (swN g18 c18 10).1 24 = 0 ∧ headE (swN g18 c18 10).1 16 = 3 ∧ (headH (swN g18 c18 10).1 24).old = true ∧ (swN g18 c18 10).2.phase = 0 ∧ isDirty (swN g18 c18 10).1 24 = true := by decide +kernel
theorem g18_light : g18.light := light_of (by decide) (by decide) (by decide)
theorem g18_small : g18.small := by unfold Hp.small most g18; decide
theorem work18 {n : Nat} (h : n ≤ 100) : n ≤ most := by unfold most; omega

set_option maxHeartbeats 2000000 in
theorem awake18_spec : Spec X 9 [] [] (Ret [] (.bo true)) := by
  refine spec_go X_ok Tryz.f9 (by kernel_rfl) (by kernel_rfl) (by kernel_rfl) fun hb hH => ⟨rfl, ?_⟩
  obtain ⟨v1, v2, v3, v4, v5, v6, v7⟩ := v18
  show AOb ((0 : Int) ≤ 16 ∧ (16 : Int) ≤ 16 ∧ (16 : Int) ≤ (most : Int)) _
  refine ⟨by decide, ?_⟩
  show AOb _ _
  refine ⟨by decide, ?_⟩
  show AOb _ _
  refine ⟨by decide, ?_⟩
  show AOb _ _
  refine ⟨by decide, ?_⟩
  show AOb _ _
  refine ⟨by decide, ?_⟩
  refine ⟨by decide, ?_⟩
  show ACall _ _ _ _ _ _
  refine .frz [64, 128, 160] [(224, .vars (g18.enc.map .d)), (576, .vars (c18.enc.map .d))] [g18.tv, c18.tv, .int 16] _ rfl
    (.vars _ _ _ _ rfl rfl (.cons _ _ _ _ (.frz _ _ rfl) (.cons _ _ _ _ (.frz _ _ rfl) (.cons _ _ _ _ (.nilsl .int) (.cons _ _ _ _ (.nilsl .int) (.cons _ _ _ _ (.nilsl .int) (.cons _ _ _ _ (.frz _ _ rfl) .nil)))))) (.vars _ _ _ _ rfl rfl (.cons _ _ _ _ (.same _) (.cons _ _ _ _ (.same _) (.cons _ _ _ _ (.same _) (.cons _ _ _ _ (.nilsl .int) (.cons _ _ _ _ (.same _) (.cons _ _ _ _ (.same _) (.cons _ _ _ _ (.same _) (.cons _ _ _ _ (.same _) (.cons _ _ _ _ (.same _) (.cons _ _ _ _ (.same _) .nil)))))))))) .nil))
    (.cons _ _ _ _ (.agg _ _ (.cons _ _ _ _ (.frz _ _ rfl) (.cons _ _ _ _ (.frz _ _ rfl) (.cons _ _ _ _ (.nilsl .int) (.cons _ _ _ _ (.nilsl .int) (.cons _ _ _ _ (.nilsl .int) (.cons _ _ _ _ (.frz _ _ rfl) .nil))))))) (.cons _ _ _ _ (.agg _ _ (.cons _ _ _ _ (.same _) (.cons _ _ _ _ (.same _) (.cons _ _ _ _ (.same _) (.cons _ _ _ _ (.nilsl .int) (.cons _ _ _ _ (.same _) (.cons _ _ _ _ (.same _) (.cons _ _ _ _ (.same _) (.cons _ _ _ _ (.same _) (.cons _ _ _ _ (.same _) (.cons _ _ _ _ (.same _) .nil))))))))))) (.cons _ _ _ _ (.c _ _ (.same _)) .nil))) rfl (Fate_spec g18 c18 16 g18_light) ?_
  rintro H r ⟨rfl, rfl⟩ _ _
  rw [v1]
  show AIf _ _ _
  refine ⟨fun _ => ?_, fun h => absurd ⟨(by rfl), trivial⟩ h⟩
  have fs := Fate_spec g18 c18 24 g18_light
  rw [v2] at fs
  show ACall _ _ _ _ _ _
  refine call_ret (fs) rfl ?_
  show ∃ n, _
  refine ⟨0, ALoop.inv (ι := {i : Nat // i ≤ 10}) (fun q => ⟨[(1, .c (.ptr 0 0 0)), (2, .c (.ptr 1 0 0)), (3, .bo (true)), (4, .int (q.1))], [(0, .vars ((swN g18 c18 q.1).1.enc.map .d)), (1, .vars ((swN g18 c18 q.1).2.enc.map .d))], 96⟩) (fun q => 10 - q.1) ⟨0, by decide⟩ ?_ ?_⟩
  · exact ⟨[(224, 0), (576, 1)], (by repeat' first | exact .nil | refine .cons _ _ _ ?_ ?_ | exact .same | exact .c _ _ (.own _ _ rfl) | exact .c _ _ (.ptr _ _ _ _ rfl) | exact .c _ _ (.frz _ _ rfl) | exact .any _), (by exact .old 0 224 _ _ _ rfl rfl (.vars _ _ (LeL_refl rfl)) (.old 1 576 _ _ _ rfl rfl (.vars _ _ (LeL_refl rfl)) .nil)), (by rfl)⟩
  rintro ⟨i, hi⟩
  show ABr (decide ((i : Int) < 10)) _ _
  refine ⟨fun h => ?_, fun h => ?_⟩
  · have hlt : i < 10 := by have := of_decide_eq_true h; omega
    have wi : IntKind.i64.wrap ((i : Int) + 1) = ((i + 1 : Nat) : Int) := wrapP (i := i) (by unfold maxN; omega)
    obtain ⟨k1, k2, k3⟩ := swN_ok g18 c18 g18_light g18_small (by decide) i
    show ACall _ _ _ _ _ _
    refine call_ret (swStep_spec (swN g18 c18 i).1 (swN g18 c18 i).2 k1 k2 (work18 k3)) rfl ?_
    show ARound _ _ _ _
    exact ⟨⟨i + 1, hlt⟩, (by dsimp only; omega), [(0, 0), (1, 1)], (by repeat' first | exact .nil | refine .cons _ _ _ ?_ ?_ | exact .int_eq wi | exact .same | exact .c _ _ (.own _ _ rfl) | exact .c _ _ (.ptr _ _ _ _ rfl) | exact .c _ _ (.frz _ _ rfl) | exact .any _), (by exact .old 0 0 _ _ _ rfl rfl (.vars _ _ (LeL_refl rfl)) (.old 1 1 _ _ _ rfl rfl (.vars _ _ (LeL_refl rfl)) .nil)), (by rfl)⟩
  · obtain rfl : i = 10 := by have := of_decide_eq_false h; omega
    obtain ⟨k1, k2, k3⟩ := swN_ok g18 c18 g18_light g18_small (by decide) 10
    show ACall _ _ _ _ _ _
    refine call_ret (hHead_spec (swN g18 c18 10).1 24 k1) rfl ?_
    show ACall _ _ _ _ _ _
    refine call_ret (hHead_spec (swN g18 c18 10).1 16 k1) rfl ?_
    show AIf _ _ _
    refine ⟨fun _ => ?_, fun h => absurd ⟨(by simp [v3, v4, v5, v6]), trivial⟩ h⟩
    show ACall _ _ _ _ _ _
    refine call_ret (Is_spec (swN g18 c18 10).1 24 k1 (by decide)) rfl ?_
    show ARet _ _ _
    refine ret_bo (x := isDirty (swN g18 c18 10).1 24) v7 ⟨rfl, rfl⟩

theorem few18_spec (g : Hp) (c : Col) : Spec X 10 [] [g.tv, c.tv] (Ret [] (.bo (few11 g c))) := by
  refine spec_go X_ok Tryz.f10 (by kernel_rfl) (by kernel_rfl) (by kernel_rfl) fun hb hH => ⟨rfl, ?_⟩
  show ACall _ _ _ _ _ _
  refine call_ret (Few_spec g) rfl ?_
  show ARet _ _ _
  refine ret_bo (x := bif fewH g then decide ((c.work.length : Int) ≤ 100) else false) ?_ ⟨rfl, rfl⟩
  unfold few11
  have e : decide ((c.work.length : Int) ≤ 100) = decide (c.work.length ≤ 100) := by rw [decide_eq_decide]; omega
  rw [e]
  cases fewH g <;> rfl
theorem few18_of {g : Hp} {c : Col} (h : few11 g c = true) : fewH g = true ∧ g.light ∧ g.small ∧ c.work.length ≤ 100 ∧ c.work.length ≤ most := by
  unfold few11 at h
  rw [Bool.and_eq_true, decide_eq_true_eq] at h
  exact ⟨h.1, few_light h.1, few_small h.1, h.2, work18 h.2⟩

end Go.Abs
