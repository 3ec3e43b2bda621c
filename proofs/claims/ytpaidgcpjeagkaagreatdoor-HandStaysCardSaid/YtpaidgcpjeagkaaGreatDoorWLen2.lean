/- How many bits a number has: the contract, as it stands to the walks. -/
import Derived.Test.YtpaidgcpjeagkaaGreatDoorWLen1
import Derived.Test.YtpaidgcpjeagkaaGreatDoorAbsBase1
set_option linter.all false
set_option linter.unusedVariables false
set_option linter.unusedSimpArgs false
namespace Go.Abs
open Go.Proofs Go.Proofs.YtpaidgcpjeagkaaGreatDoor

theorem bitLenAux_le : ∀ f x, Lib.bitLenAux f x ≤ f
  | 0, _ => Nat.le_refl _
  | f + 1, x => by
    unfold Lib.bitLenAux
    split
    · exact Nat.zero_le _
    · have := bitLenAux_le f (x / 2)
      omega

/-- A contract of the model's own, where the world stays as it was. -/
theorem spec_still {X : Ctx} {f : Nat} {args : List TV} {vs : List Value} {Q : Heap → TV → Prop} (hok : callOk X.P f) (hargs : ∀ N S w us, RepTL N S w args us → us = vs) (h : ∀ w, Calls X.P f vs.toArray w fun e w' => ∃ v, e = .returned v ∧ w' = w ∧ v.oneCell' = true ∧ Q [] (.lit v)) : Spec X f [] args Q :=
  ⟨hok, fun N S w us hnr hh hu hg ha => by
    rw [hargs N S w us ha]
    refine (h w).mono ?_
    rintro e w' ⟨v, rfl, rfl, h1, hq⟩
    exact ⟨v, N, [], _, rfl, hq, hnr, fun b x hx => (by cases hx), hu, rep_mk h1, .refl _ _, fun _ _ h => h, fun _ _ => .inr (.inl rfl)⟩⟩

theorem Len_spec (x : Int) (h0 : 0 ≤ x) (h1 : x ≤ 18446744073709551615) : Spec X 114 [] [.lit (.int .u64 x)] (fun H r => H = [] ∧ ∃ n : Int, 0 ≤ n ∧ n ≤ 64 ∧ r = .int n) := by
  refine spec_still (vs := [.int .u64 x]) ⟨Tryz.f114, by kernel_rfl, by kernel_rfl, by kernel_rfl⟩ (fun N S w us ha => ?_) fun w => (bits_Len x w h0 h1).mono ?_
  · match us, ha with
    | [u], ha => rw [rep_lit (ha.2 0 _ u rfl rfl)]
    | [], ha => exact absurd ha.1 (by simp)
    | _ :: _ :: _, ha => exact absurd ha.1 (by simp)
  · rintro e w' ⟨rfl, rfl⟩
    exact ⟨_, rfl, rfl, rfl, rfl, _, by omega, by have := bitLenAux_le 64 x.toNat; unfold Lib.bitLen; omega, rfl⟩

end Go.Abs
