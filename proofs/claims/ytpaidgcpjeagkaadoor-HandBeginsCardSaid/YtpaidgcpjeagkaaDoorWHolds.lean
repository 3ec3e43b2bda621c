/- Walks: all that a thread holds. -/
import Derived.Test.YtpaidgcpjeagkaaDoorWRegs
set_option linter.all false
set_option linter.unusedVariables false
set_option linter.unusedSimpArgs false
namespace Go.Abs
open Go.Proofs Go.Proofs.YtpaidgcpjeagkaaDoor
set_option maxRecDepth 8000

def Thread.six (t : Thread) : List Int := [t.r0, t.r1, t.r2, t.r3, t.x, t.y]
def Thread.acc (t : Thread) (i : Nat) : List Int := (t.six.take i).filter fun a => decide (a ≠ 0)

theorem Thread.acc_len (t : Thread) (i : Nat) : (t.acc i).length ≤ 6 :=
  Nat.le_trans (List.length_filter_le _ _) (by simp [Thread.six]; omega)
theorem Thread.acc_step (t : Thread) (i : Nat) {a : Int} (h : t.six[i]? = some a) : t.acc (i + 1) = if a = 0 then t.acc i else t.acc i ++ [a] := by
  unfold Thread.acc
  rw [List.take_add_one, h, List.filter_append]
  by_cases ha : a = 0 <;> simp [ha]
theorem Thread.acc_most (t : Thread) (i : Nat) : (t.acc i).length + 1 ≤ most := by
  have := t.acc_len i
  unfold most
  omega

theorem Holds_spec (t : Thread) : Spec X 15 [] [t.tv] (Ret [] (.c (.d (.sl .int (t.acc 6))))) := by
  refine spec_go X_ok Tryd.f15 (by kernel_rfl) (by kernel_rfl) (by kernel_rfl) fun _ _ => ⟨rfl, ?_⟩
  show ∃ n, _
  refine ⟨0, ALoop.inv (ι := {i : Nat // i ≤ 6}) (fun i => ⟨[(3, .c (.own 1)), (1, .c (.ptr 0 0 0)), (6, .int i.1)], [(0, .vars ((EK.enc .thread t).map .d)), (1, .data .int (t.acc i.1))], 32⟩) (fun i => 6 - i.1) ⟨0, by simp⟩ ?_ ?_⟩
  · exact ⟨[(32, 0)], .cons _ _ _ (.c _ _ (.nilown 1 .int rfl rfl)) (.cons _ _ _ (.c _ _ (.ptr _ _ _ _ rfl)) (.cons _ _ _ .same .nil)), .old 0 32 _ _ _ rfl rfl (.vars _ _ (LeL_refl rfl)) (.new 1 .int _ rfl .nil), rfl⟩
  · rintro ⟨i, hi⟩
    have hc : i = 0 ∨ i = 1 ∨ i = 2 ∨ i = 3 ∨ i = 4 ∨ i = 5 ∨ i = 6 := by omega
    rcases hc with rfl | rfl | rfl | rfl | rfl | rfl | rfl
    · show ABr _ _ _
      refine ⟨fun _ => ?_, fun h => absurd h (by simp)⟩
      show ABr _ _ _
      refine ⟨fun _ => ?_, fun h => absurd h (by simp)⟩
      show AOb _ _
      refine ⟨by simp, ?_⟩
      show ABr (t.r0 != 0) _ _
      refine ⟨fun h => ?_, fun h => ?_⟩
      · have h0 : t.r0 ≠ 0 := by simpa using h
        show AOb ((t.acc 0).length + 1 ≤ most) _
        refine ⟨t.acc_most 0, ?_⟩
        show ARound _ _ _ _
        refine ⟨⟨1, by decide⟩, by simp, [(_, 1), (0, 0)], .cons _ _ _ (.c _ _ (.own1 _ _)) (.cons _ _ _ (.c _ _ (.ptr _ _ _ _ rfl)) (.cons _ _ _ .same .nil)), .old 0 0 _ _ _ rfl rfl (.vars _ _ (LeL_refl rfl)) (.old 1 _ _ _ _ rfl rfl (.data_eq ?_) .nil), rfl⟩
        show t.acc 0 ++ [t.r0] = t.acc 1
        rw [t.acc_step 0 rfl, if_neg h0]
      · have h0 : t.r0 = 0 := by simpa using h
        show ARound _ _ _ _
        refine ⟨⟨1, by decide⟩, by simp, [(1, 1), (0, 0)], .cons _ _ _ (.c _ _ (.own1 _ _)) (.cons _ _ _ (.c _ _ (.ptr _ _ _ _ rfl)) (.cons _ _ _ .same .nil)), .old 0 0 _ _ _ rfl rfl (.vars _ _ (LeL_refl rfl)) (.old 1 _ _ _ _ rfl rfl (.data_eq ?_) .nil), rfl⟩
        show t.acc 0 = t.acc 1
        rw [t.acc_step 0 rfl, if_pos h0]
    · show ABr _ _ _
      refine ⟨fun _ => ?_, fun h => absurd h (by simp)⟩
      show ABr _ _ _
      refine ⟨fun _ => ?_, fun h => absurd h (by simp)⟩
      show AOb _ _
      refine ⟨by simp, ?_⟩
      show ABr (t.r1 != 0) _ _
      refine ⟨fun h => ?_, fun h => ?_⟩
      · have h0 : t.r1 ≠ 0 := by simpa using h
        show AOb ((t.acc 1).length + 1 ≤ most) _
        refine ⟨t.acc_most 1, ?_⟩
        show ARound _ _ _ _
        refine ⟨⟨2, by decide⟩, by simp, [(_, 1), (0, 0)], .cons _ _ _ (.c _ _ (.own1 _ _)) (.cons _ _ _ (.c _ _ (.ptr _ _ _ _ rfl)) (.cons _ _ _ .same .nil)), .old 0 0 _ _ _ rfl rfl (.vars _ _ (LeL_refl rfl)) (.old 1 _ _ _ _ rfl rfl (.data_eq ?_) .nil), rfl⟩
        show t.acc 1 ++ [t.r1] = t.acc 2
        rw [t.acc_step 1 rfl, if_neg h0]
      · have h0 : t.r1 = 0 := by simpa using h
        show ARound _ _ _ _
        refine ⟨⟨2, by decide⟩, by simp, [(1, 1), (0, 0)], .cons _ _ _ (.c _ _ (.own1 _ _)) (.cons _ _ _ (.c _ _ (.ptr _ _ _ _ rfl)) (.cons _ _ _ .same .nil)), .old 0 0 _ _ _ rfl rfl (.vars _ _ (LeL_refl rfl)) (.old 1 _ _ _ _ rfl rfl (.data_eq ?_) .nil), rfl⟩
        show t.acc 1 = t.acc 2
        rw [t.acc_step 1 rfl, if_pos h0]
    · show ABr _ _ _
      refine ⟨fun _ => ?_, fun h => absurd h (by simp)⟩
      show ABr _ _ _
      refine ⟨fun _ => ?_, fun h => absurd h (by simp)⟩
      show AOb _ _
      refine ⟨by simp, ?_⟩
      show ABr (t.r2 != 0) _ _
      refine ⟨fun h => ?_, fun h => ?_⟩
      · have h0 : t.r2 ≠ 0 := by simpa using h
        show AOb ((t.acc 2).length + 1 ≤ most) _
        refine ⟨t.acc_most 2, ?_⟩
        show ARound _ _ _ _
        refine ⟨⟨3, by decide⟩, by simp, [(_, 1), (0, 0)], .cons _ _ _ (.c _ _ (.own1 _ _)) (.cons _ _ _ (.c _ _ (.ptr _ _ _ _ rfl)) (.cons _ _ _ .same .nil)), .old 0 0 _ _ _ rfl rfl (.vars _ _ (LeL_refl rfl)) (.old 1 _ _ _ _ rfl rfl (.data_eq ?_) .nil), rfl⟩
        show t.acc 2 ++ [t.r2] = t.acc 3
        rw [t.acc_step 2 rfl, if_neg h0]
      · have h0 : t.r2 = 0 := by simpa using h
        show ARound _ _ _ _
        refine ⟨⟨3, by decide⟩, by simp, [(1, 1), (0, 0)], .cons _ _ _ (.c _ _ (.own1 _ _)) (.cons _ _ _ (.c _ _ (.ptr _ _ _ _ rfl)) (.cons _ _ _ .same .nil)), .old 0 0 _ _ _ rfl rfl (.vars _ _ (LeL_refl rfl)) (.old 1 _ _ _ _ rfl rfl (.data_eq ?_) .nil), rfl⟩
        show t.acc 2 = t.acc 3
        rw [t.acc_step 2 rfl, if_pos h0]
    · show ABr _ _ _
      refine ⟨fun _ => ?_, fun h => absurd h (by simp)⟩
      show ABr _ _ _
      refine ⟨fun _ => ?_, fun h => absurd h (by simp)⟩
      show AOb _ _
      refine ⟨by simp, ?_⟩
      show ABr (t.r3 != 0) _ _
      refine ⟨fun h => ?_, fun h => ?_⟩
      · have h0 : t.r3 ≠ 0 := by simpa using h
        show AOb ((t.acc 3).length + 1 ≤ most) _
        refine ⟨t.acc_most 3, ?_⟩
        show ARound _ _ _ _
        refine ⟨⟨4, by decide⟩, by simp, [(_, 1), (0, 0)], .cons _ _ _ (.c _ _ (.own1 _ _)) (.cons _ _ _ (.c _ _ (.ptr _ _ _ _ rfl)) (.cons _ _ _ .same .nil)), .old 0 0 _ _ _ rfl rfl (.vars _ _ (LeL_refl rfl)) (.old 1 _ _ _ _ rfl rfl (.data_eq ?_) .nil), rfl⟩
        show t.acc 3 ++ [t.r3] = t.acc 4
        rw [t.acc_step 3 rfl, if_neg h0]
      · have h0 : t.r3 = 0 := by simpa using h
        show ARound _ _ _ _
        refine ⟨⟨4, by decide⟩, by simp, [(1, 1), (0, 0)], .cons _ _ _ (.c _ _ (.own1 _ _)) (.cons _ _ _ (.c _ _ (.ptr _ _ _ _ rfl)) (.cons _ _ _ .same .nil)), .old 0 0 _ _ _ rfl rfl (.vars _ _ (LeL_refl rfl)) (.old 1 _ _ _ _ rfl rfl (.data_eq ?_) .nil), rfl⟩
        show t.acc 3 = t.acc 4
        rw [t.acc_step 3 rfl, if_pos h0]
    · show ABr _ _ _
      refine ⟨fun _ => ?_, fun h => absurd h (by simp)⟩
      show ABr _ _ _
      refine ⟨fun h => absurd h (by simp), fun _ => ?_⟩
      show ABr _ _ _
      refine ⟨fun h => absurd h (by simp), fun _ => ?_⟩
      show ABr (t.x != 0) _ _
      refine ⟨fun h => ?_, fun h => ?_⟩
      · have h0 : t.x ≠ 0 := by simpa using h
        show AOb ((t.acc 4).length + 1 ≤ most) _
        refine ⟨t.acc_most 4, ?_⟩
        show ARound _ _ _ _
        refine ⟨⟨5, by decide⟩, by simp, [(_, 1), (0, 0)], .cons _ _ _ (.c _ _ (.own1 _ _)) (.cons _ _ _ (.c _ _ (.ptr _ _ _ _ rfl)) (.cons _ _ _ .same .nil)), .old 0 0 _ _ _ rfl rfl (.vars _ _ (LeL_refl rfl)) (.old 1 _ _ _ _ rfl rfl (.data_eq ?_) .nil), rfl⟩
        show t.acc 4 ++ [t.x] = t.acc 5
        rw [t.acc_step 4 rfl, if_neg h0]
      · have h0 : t.x = 0 := by simpa using h
        show ARound _ _ _ _
        refine ⟨⟨5, by decide⟩, by simp, [(1, 1), (0, 0)], .cons _ _ _ (.c _ _ (.own1 _ _)) (.cons _ _ _ (.c _ _ (.ptr _ _ _ _ rfl)) (.cons _ _ _ .same .nil)), .old 0 0 _ _ _ rfl rfl (.vars _ _ (LeL_refl rfl)) (.old 1 _ _ _ _ rfl rfl (.data_eq ?_) .nil), rfl⟩
        show t.acc 4 = t.acc 5
        rw [t.acc_step 4 rfl, if_pos h0]
    · show ABr _ _ _
      refine ⟨fun _ => ?_, fun h => absurd h (by simp)⟩
      show ABr _ _ _
      refine ⟨fun h => absurd h (by simp), fun _ => ?_⟩
      show ABr _ _ _
      refine ⟨fun _ => ?_, fun h => absurd h (by simp)⟩
      show ABr (t.y != 0) _ _
      refine ⟨fun h => ?_, fun h => ?_⟩
      · have h0 : t.y ≠ 0 := by simpa using h
        show AOb ((t.acc 5).length + 1 ≤ most) _
        refine ⟨t.acc_most 5, ?_⟩
        show ARound _ _ _ _
        refine ⟨⟨6, by decide⟩, by simp, [(_, 1), (0, 0)], .cons _ _ _ (.c _ _ (.own1 _ _)) (.cons _ _ _ (.c _ _ (.ptr _ _ _ _ rfl)) (.cons _ _ _ .same .nil)), .old 0 0 _ _ _ rfl rfl (.vars _ _ (LeL_refl rfl)) (.old 1 _ _ _ _ rfl rfl (.data_eq ?_) .nil), rfl⟩
        show t.acc 5 ++ [t.y] = t.acc 6
        rw [t.acc_step 5 rfl, if_neg h0]
      · have h0 : t.y = 0 := by simpa using h
        show ARound _ _ _ _
        refine ⟨⟨6, by decide⟩, by simp, [(1, 1), (0, 0)], .cons _ _ _ (.c _ _ (.own1 _ _)) (.cons _ _ _ (.c _ _ (.ptr _ _ _ _ rfl)) (.cons _ _ _ .same .nil)), .old 0 0 _ _ _ rfl rfl (.vars _ _ (LeL_refl rfl)) (.old 1 _ _ _ _ rfl rfl (.data_eq ?_) .nil), rfl⟩
        show t.acc 5 = t.acc 6
        rw [t.acc_step 5 rfl, if_pos h0]
    · show ABr _ _ _
      refine ⟨fun h => absurd h (by simp), fun _ => ?_⟩
      show ARet _ _ _
      exact ret1 (.frz rfl rfl) ⟨rfl, rfl⟩

end Go.Abs
