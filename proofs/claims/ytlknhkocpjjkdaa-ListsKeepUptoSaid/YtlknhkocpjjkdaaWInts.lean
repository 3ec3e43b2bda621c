/- Walks: two lists are compared. -/
import Derived.Test.YtlknhkocpjjkdaaAbsLib
import Derived.Test.YtlknhkocpjjkdaaAbsBase
set_option linter.all false
set_option linter.unusedVariables false
set_option linter.unusedSimpArgs false
namespace Go.Abs
open Go.Proofs Go.Proofs.Ytlknhkocpjjkdaa

theorem Ints_spec (a b : List Int) : Spec X 24 [] [.c (.d (.sl .int a)), .c (.d (.sl .int b))] (Ret [] (.bo (decide (a = b)))) := by
  refine spec_go X_ok Try.f24 (by kernel_rfl) (by kernel_rfl) (by kernel_rfl) fun hb _ => ⟨rfl, ?_⟩
  have hla : a.length ≤ maxN := (hb (.c (.d (.sl .int a))) (by simp)).1
  unfold maxN at hla
  show ABr _ _ _
  refine ⟨fun (h : ((a.length : Int) != (b.length : Int)) = true) => ?_, fun (h : ((a.length : Int) != (b.length : Int)) = false) => ?_⟩
  · show ARet _ _ _
    refine ret_bo ?_ ⟨rfl, rfl⟩
    have : a ≠ b := fun e => by subst e; simp at h
    simp [this]
  · have hlen : a.length = b.length := by simp [bne] at h; omega
    refine ⟨0, ALoop.inv (ι := {i : Nat // i ≤ a.length ∧ a.take i = b.take i}) (fun i => ⟨[(0, .c (.d (.sl .int a))), (1, .c (.d (.sl .int b))), (5, .int i.1)], [], 32⟩) (fun i => a.length - i.1) ⟨0, by simp⟩ ?_ ?_⟩
    · exact ⟨[], .cons _ _ _ .same (.cons _ _ _ .same (.cons _ _ _ .same .nil)), .nil, rfl⟩
    · rintro ⟨i, hi, he⟩
      show ABr _ _ _
      refine ⟨fun (h : decide ((i : Int) < (a.length : Int)) = true) => ?_, fun (h : decide ((i : Int) < (a.length : Int)) = false) => ?_⟩
      · have hlt : i < a.length := by simpa using h
        show AOb ((0 : Int) ≤ (i : Int) ∧ (i : Int) < (a.length : Int)) _
        refine ⟨by omega, ?_⟩
        show AOb ((0 : Int) ≤ (i : Int) ∧ (i : Int) < (b.length : Int)) _
        refine ⟨by omega, ?_⟩
        show ABr (a.getD i 0 != b.getD i 0) _ _
        have h2 : i < b.length := by omega
        refine ⟨fun h => ?_, fun h => ?_⟩
        · show ARet _ _ _
          refine ret_bo ?_ ⟨rfl, rfl⟩
          have : a ≠ b := fun e => by subst e; simp at h
          simp [this]
        · show ARound _ _ _ _
          have hab : a.take (i + 1) = b.take (i + 1) := by
            have hx : a[i] = b[i] := by simpa [hlt, h2] using h
            rw [List.take_add_one, List.take_add_one, he, List.getElem?_eq_getElem hlt, List.getElem?_eq_getElem h2, hx]
          exact ⟨⟨i + 1, hlt, hab⟩, Nat.sub_lt_sub_left hlt (Nat.lt_succ_self i), [], .cons _ _ _ .same (.cons _ _ _ .same (.cons _ _ _ (.int_eq (by rw [wrap64] <;> simp <;> omega)) .nil)), .nil, rfl⟩
      · show ARet _ _ _
        refine ret_bo ?_ ⟨rfl, rfl⟩
        have hge : i = a.length := by simp at h; omega
        have : a = b := by
          have := he
          rw [hge, List.take_length, hlen, List.take_length] at this
          exact this
        simp [this]

end Go.Abs
