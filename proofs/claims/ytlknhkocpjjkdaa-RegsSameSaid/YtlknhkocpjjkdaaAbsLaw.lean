/- What a law's contract comes to. -/
import Derived.Test.YtlknhkocpjjkdaaAbsOpen3
import Derived.Test.YtlknhkocpjjkdaaAbsBase
import Derived.Carry
set_option linter.all false
set_option linter.unusedVariables false
set_option linter.unusedSimpArgs false
namespace Go.Abs
open Go.RowKit

theorem law_calls {X : Ctx} (hgl : X.gl = []) {f : Nat} {args : List TV} {vs : List Value} {w : World} (h : Spec X f [] args (Ret [] (.bo true))) (ha : RepTL (fun _ => .unused) no w args vs) :
    Calls X.P f vs.toArray w fun e w' => e = .returned (.bool true) ∧ Below w.heap.size w w' := by
  refine (h.2 (fun _ => .unused) no w vs ⟨fun b b' r r' hb => (by cases hb), fun b r hb => (by cases hb), fun k hk => hk.elim⟩ (fun b x hx => by cases hx) (fun b hb => absurd rfl hb) (fun g xs hx => ?_) ha).mono ?_
  · rw [hgl] at hx
    cases hx
  · rintro e w' ⟨v, N', H', r, rfl, ⟨_, rfl⟩, _, _, _, hr, hw, _⟩
    refine ⟨by rw [rep_lit hr], hw.os, hw.tape, hw.output, hw.size, fun k hk => hw.block k hk ?_⟩
    rintro ⟨b, r, hb, _⟩
    cases hb

/-- An argument of several cells. -/
theorem arg_agg {w : World} {xs : List DV} {cs : Array Value} (h : RepL no w xs cs.toList) : RepT (fun _ => .unused) no w (.agg (xs.map .d)) (.agg cs) := by
  refine .agg _ _ (repCL_d (h.sub fun k _ ho => ?_))
  rcases ho with ⟨b, r, hb, _⟩ | ho
  · cases hb
  · exact ho

theorem arg_one {w : World} {x : DV} {v : Value} (h : Rep no w x v) : RepT (fun _ => .unused) no w (.c (.d x)) v := by
  refine .c _ _ (.d _ _ (h.sub fun k _ ho => ?_))
  rcases ho with ⟨b, r, hb, _⟩ | ho
  · cases hb
  · exact ho

theorem args_nil {N : Names} {S : Nat → Prop} {w : World} : RepTL N S w [] [] := ⟨rfl, fun i x v hx => by simp at hx⟩
theorem args_cons {N : Names} {S : Nat → Prop} {w : World} {x : TV} {v : Value} {xs : List TV} {vs : List Value} (h : RepT N S w x v) (hs : RepTL N S w xs vs) : RepTL N S w (x :: xs) (v :: vs) := by
  refine ⟨by simp [hs.1], fun i a b ha hb => ?_⟩
  cases i with
  | zero => simp at ha hb; subst ha hb; exact h
  | succ i => exact hs.2 i a b (by simpa using ha) (by simpa using hb)

end Go.Abs
