/- Walks: the small heap; how many there may be. -/
import Derived.Test.YtpaidgcpjeagkaaGreatDoorWHeap4
set_option linter.all false
set_option linter.unusedVariables false
set_option linter.unusedSimpArgs false
namespace Go.Abs
open Go.Proofs Go.Proofs.YtpaidgcpjeagkaaGreatDoor
set_option maxRecDepth 8000

def g7m : Hp := ⟨(List.replicate 16 0).set 8 41, [⟨1, 2⟩], ⟨[], [], []⟩, [false, false]⟩
def g7k : Hp := ⟨(List.replicate 16 0).set 8 41, [⟨1, 2⟩], ⟨[], [], [16]⟩, [false, false]⟩

theorem g7_values : headE g7m 24 = 0 ∧ (headH g7m 24).n = 5 ∧ mayH g7m [] = true ∧ wholeH g7m [] = false ∧ wholeH g7k [] = true ∧ wholeH (newH 2) [] = true ∧ (usedH (newH 2)).length = 0 ∧ newE 2 = 0 := by decide +kernel

theorem light_of {h : Hp} (a : h.free.l0.length ≤ 4000000000) (b : h.free.l1.length ≤ 4000000000) (c : h.free.l2.length ≤ 4000000000) : h.light := by
  unfold Hp.light most
  simp [flats, Lists.flat]
  omega

theorem newH_light (n : Int) : (newH n).light := by
  unfold newH
  cases pgN n <;> exact light_of (by simp [Hp.zero]) (by simp [Hp.zero]) (by simp [Hp.zero])

theorem g7m_light : g7m.light := light_of (by decide) (by decide) (by decide)
theorem g7k_light : g7k.light := light_of (by decide) (by decide) (by decide)

abbrev g7A : ArgLe (.agg [.d (.sl .int g7m.w), .d (.sl .page g7m.pages), .d (.lit (.slice none 0 0)), .d (.lit (.slice none 0 0)), .d (.lit (.slice none 0 0)), .d (.sl .bool g7m.cards)]) g7m.tv :=
  .agg _ _ (.cons _ _ _ (.cons _ _ _ (.sl .int [] _ _ _ rfl (.sl .int [] _ _ _ rfl (.sl .int [] _ _ _ rfl (.cons _ _ _ .nil))))))
abbrev g7B : ArgLe (.agg [.d (.sl .int g7k.w), .d (.sl .page g7k.pages), .d (.lit (.slice none 0 0)), .d (.lit (.slice none 0 0)), .d (.sl .int g7k.free.l2), .d (.sl .bool g7k.cards)]) g7k.tv :=
  .agg _ _ (.cons _ _ _ (.cons _ _ _ (.sl .int [] _ _ _ rfl (.sl .int [] _ _ _ rfl (.cons _ _ _ (.cons _ _ _ .nil))))))

def fewH (h : Hp) : Bool := decide (h.w.length ≤ 130 ∧ h.pages.length ≤ 9 ∧ h.cards.length ≤ 20 ∧ h.free.l0.length ≤ 70 ∧ h.free.l1.length ≤ 70 ∧ h.free.l2.length ≤ 70)

theorem Few_spec (h : Hp) : Spec X 24 [] [h.tv] (Ret [] (.bo (fewH h))) := by
  refine spec_go X_ok Tryz.f24 (by kernel_rfl) (by kernel_rfl) (by kernel_rfl) fun hb hH => ⟨rfl, ?_⟩
  have ef : fewH h = (decide ((h.w.length : Int) ≤ 130) && (decide ((h.pages.length : Int) ≤ 9) && (decide ((h.cards.length : Int) ≤ 20) && decide (h.free.l0.length ≤ 70 ∧ h.free.l1.length ≤ 70 ∧ h.free.l2.length ≤ 70)))) := by
    unfold fewH
    rw [← Bool.decide_and, ← Bool.decide_and, ← Bool.decide_and, decide_eq_decide]
    omega
  rw [ef]
  have ec : (bif (bif decide ((h.w.length : Int) ≤ 130) then decide ((h.pages.length : Int) ≤ 9) else false) then decide ((h.cards.length : Int) ≤ 20) else false) = (decide ((h.w.length : Int) ≤ 130) && (decide ((h.pages.length : Int) ≤ 9) && decide ((h.cards.length : Int) ≤ 20))) := by
    cases decide ((h.w.length : Int) ≤ 130) <;> cases decide ((h.pages.length : Int) ≤ 9) <;> rfl
  show AIf ((bif (bif decide ((h.w.length : Int) ≤ 130) then decide ((h.pages.length : Int) ≤ 9) else false) then decide ((h.cards.length : Int) ≤ 20) else false) = true ∧ True) _ _
  generalize hcc : (bif (bif decide ((h.w.length : Int) ≤ 130) then decide ((h.pages.length : Int) ≤ 9) else false) then decide ((h.cards.length : Int) ≤ 20) else false) = cc at ec
  refine ⟨fun h1 => ?_, fun h1 => ?_⟩
  · have hh := ec.symm.trans h1.1
    simp only [Bool.and_eq_true] at hh
    rw [hh.1, hh.2.1, hh.2.2]
    show ACall _ _ _ _ _ _
    refine call_ret (Light_spec h.free) rfl ?_
    show ARet _ _ _
    exact ret_d rfl ⟨rfl, rfl⟩
  · have hcf : cc = false := Bool.eq_false_iff.2 fun h' => h1 ⟨h', trivial⟩
    rw [← hcc] at hcf
    show AOb ((bif (bif decide ((h.w.length : Int) ≤ 130) then decide ((h.pages.length : Int) ≤ 9) else false) then decide ((h.cards.length : Int) ≤ 20) else false) = false) _
    refine ⟨hcf, ?_⟩
    show ARet _ _ _
    refine ret_bo (x := false) ?_ ⟨rfl, rfl⟩
    rw [hcc] at hcf
    rw [hcf] at ec
    cases hb1 : decide ((h.w.length : Int) ≤ 130) <;> cases hb2 : decide ((h.pages.length : Int) ≤ 9) <;> cases hb3 : decide ((h.cards.length : Int) ≤ 20) <;> first | rfl | (rw [hb1, hb2, hb3] at ec; exact absurd ec (by decide))

theorem few_light {h : Hp} (hf : fewH h = true) : h.light := by
  have := of_decide_eq_true hf
  exact light_of (by omega) (by omega) (by omega)
end Go.Abs
