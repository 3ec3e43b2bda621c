/- Walks: the law ListsAll. -/
import Derived.Test.YtlknhkocpjjkdaaWRAll
set_option linter.all false
set_option linter.unusedVariables false
set_option linter.unusedSimpArgs false
namespace Go.Abs
open Go.Proofs Go.Proofs.Ytlknhkocpjjkdaa
set_option maxRecDepth 8000

theorem flat_len (l : Lists) : l.flat.length = l.l0.length + l.l1.length + l.l2.length := by simp [Lists.flat]; omega

theorem flats_bound : ∀ (L : List Lists) (n : Nat), (∀ k, k < L.length → (L.getD k default).flat.length ≤ n) → (flats L).length ≤ n * L.length
  | [], n, h => by simp [flats]
  | x :: L, n, h => by
    have h0 := h 0 (by simp)
    have h1 := flats_bound L n fun k hk => by have := h (k + 1) (by simp; omega); simpa using this
    have e : flats (x :: L) = x.flat ++ flats L := by simp [flats]
    simp at h0
    rw [e, List.length_append, List.length_cons, Nat.mul_succ]
    omega

set_option maxHeartbeats 1000000 in
theorem ListsAll_spec (L : List Lists) : Spec X 7 [] [.c (.d (.sl .lists L))] (Ret [] (.bo true)) := by
  refine spec_go X_ok Try.f7 (by kernel_rfl) (by kernel_rfl) (by kernel_rfl) fun hb _ => ⟨rfl, ?_⟩
  show ACall _ _ _ _ _ _
  refine call_ret awake6_spec rfl ?_
  show ABr (cond (!true) true (decide ((L.length : Int) > 6))) _ _
  refine ⟨fun _ => ?_, fun h1 => ?_⟩
  · show ARet _ _ _
    exact ret_bo rfl ⟨rfl, rfl⟩
  · have h6 : L.length ≤ 6 := by have := of_decide_eq_false h1; omega
    show ∃ n, _
    refine ⟨0, ALoop.inv (ι := {i : Nat // i ≤ L.length ∧ ∀ k, k < i → (L.getD k default).flat.length ≤ 180}) (fun i => ⟨[(0, .c (.d (.sl .lists L))), (4, .int i.1)], [], 64⟩) (fun i => L.length - i.1) ⟨0, Nat.zero_le _, fun k hk => absurd hk (by omega)⟩ ?_ ?_⟩
    · exact ⟨[], .cons _ _ _ .same (.cons _ _ _ .same .nil), .nil, rfl⟩
    · rintro ⟨i, hi, ha⟩
      show ABr (decide ((i : Int) < (L.length : Int))) _ _
      refine ⟨fun h2 => ?_, fun h2 => ?_⟩
      · have hlt : i < L.length := Int.ofNat_lt.1 (of_decide_eq_true h2)
        have hwi := wrapP (i := i) (by unfold maxN; omega)
        show AOb ((0 : Int) ≤ (i : Int) ∧ (i : Int) < (L.length : Int)) _
        refine ⟨by omega, ?_⟩
        show AOb _ _
        refine ⟨by decide, ?_⟩
        show AOb (_ → (0 : Int) ≤ (i : Int) ∧ (i : Int) < (L.length : Int)) _
        refine ⟨fun _ => by omega, ?_⟩
        show AOb _ _
        refine ⟨fun _ => by decide, ?_⟩
        show AOb (_ → (0 : Int) ≤ (i : Int) ∧ (i : Int) < (L.length : Int)) _
        refine ⟨fun _ => by omega, ?_⟩
        show AOb _ _
        refine ⟨fun _ => by decide, ?_⟩
        show ABr (bif (bif decide (((L.getD i default).l0.length : Int) > 60) then true else decide (((L.getD i default).l1.length : Int) > 60)) then true else decide (((L.getD i default).l2.length : Int) > 60)) _ _
        refine ⟨fun _ => ?_, fun h3 => ?_⟩
        · show ARet _ _ _
          exact ret_bo rfl ⟨rfl, rfl⟩
        · have hx : (L.getD i default).flat.length ≤ 180 := by
            have hfl := flat_len (L.getD i default)
            generalize L.getD i default = x at *
            simp at h3
            omega
          show ARound _ _ _ _
          refine ⟨⟨i + 1, hlt, fun k hk => ?_⟩, Nat.sub_lt_sub_left hlt (Nat.lt_succ_self i), [], .cons _ _ _ .same (.cons _ _ _ (.int_eq hwi) .nil), .nil, rfl⟩
          by_cases hki : k = i
          · subst hki; exact hx
          · exact ha k (by have : k < i + 1 := hk; omega)
      · have hge : i = L.length := by have : i ≤ L.length := hi; have := of_decide_eq_false h2; omega
        have hm : (flats L).length ≤ most := by
          have := flats_bound L 180 (fun k hk => ha k (by show k < i; omega))
          unfold most
          have : 180 * L.length ≤ 180 * 6 := Nat.mul_le_mul_left _ h6
          omega
        show ACall _ _ _ _ _ _
        refine .mk _ (All_spec L hm) ?_
        rintro H r ⟨rfl, rfl⟩ _ _
        refine ⟨.inl rfl, ?_⟩
        show ACall _ _ _ _ _ _
        refine .mk _ (rAll_spec L hm) ?_
        rintro H r ⟨rfl, rfl⟩ _ _
        refine ⟨.inl rfl, ?_⟩
        show ACall _ _ _ _ _ _
        refine call_ret (Ints_spec (flats L) (flats L)) rfl ?_
        show AIf _ _ _
        refine ⟨fun _ => ?_, fun h => absurd ⟨by simp, trivial⟩ h⟩
        show ACall _ _ _ _ _ _
        refine call_ret (Apart_spec L hm) rfl ?_
        show ACall _ _ _ _ _ _
        refine call_ret (rApart_spec L hm) rfl ?_
        show ARet _ _ _
        refine ret_bo ?_ ⟨rfl, rfl⟩
        simp
end Go.Abs
