/- Walks: cards. -/
import Derived.Test.YtpkngagppfoccaaGreatDoorWHeap4
set_option linter.all false
set_option linter.unusedVariables false
set_option linter.unusedSimpArgs false
namespace Go.Abs
open Go.Proofs Go.Proofs.YtpkngagppfoccaaGreatDoor
set_option maxRecDepth 8000

def cardE (g : Hp) (a : Int) : Int := bif mayH g [] then (bif decide (16 ≤ a ∧ a < 16 + (g.w.length : Int)) then 0 else 3) else 1
def cardOf (g : Hp) (a : Int) : Int := bif decide (cardE g a = 0) then (a - 16) / 8 else 0
def cset (g : Hp) (c : Int) (b : Bool) : Hp := ⟨g.w, g.pages, g.free, g.cards.set c.toNat b⟩
def dirtyH (g : Hp) (a : Int) : Hp := bif decide (cardE g a = 0) then cset g (cardOf g a) true else Hp.zero
def isDirty (g : Hp) (a : Int) : Bool := decide (cardE g a = 0) && g.cards.getD (cardOf g a).toNat false

theorem CloneBoolsOwn_spec (l : List Bool) (h : l.length ≤ most) (hne : l ≠ []) : Spec X 60 [] [.c (.d (.sl .bool l))] (Ret [(0, .data .bool l)] (.c (.own 0))) := by
  refine spec_go X_ok Tryz.f60 (by kernel_rfl) (by kernel_rfl) (by kernel_rfl) fun hb _ => ⟨rfl, ?_⟩
  intro b (hnil : b = true → l = [])
  show ABr _ _ _
  refine ⟨fun hb => absurd (hnil hb) hne, fun hb => ?_⟩
  show AOb (0 + l.length ≤ most) _
  refine ⟨by omega, ?_⟩
  show ARet _ _ _
  exact ⟨[(_, 0)], [(0, .data .bool l)], [.c (.own 0)], .cons _ _ _ _ (.c _ _ (.own1 _ _)) .nil, .old 0 _ _ _ _ rfl rfl (.data_eq rfl) .nil, rfl, rfl, rfl⟩

theorem cset_spec (g : Hp) (c : Int) (b : Bool) (hl : g.light) (hs : shapedH g = true) (hc : 0 ≤ c ∧ c < (g.cards.length : Int)) : Spec X 123 [] [g.tv, .int c, .bo b] (Ret [] (cset g c b).tv) := by
  refine spec_go X_ok Tryz.f123 (by kernel_rfl) (by kernel_rfl) (by kernel_rfl) fun hb hH => ⟨rfl, ?_⟩
  obtain ⟨_, _, h1, h2, h3, h4⟩ := shapedH_of hs
  have hf : g.free.l0.length + g.free.l1.length + g.free.l2.length ≤ most := by
    have := hl
    unfold Hp.light at this
    simp [flats, Lists.flat] at this
    omega
  have hm : 1024 ≤ most := by decide
  show ADCall _ _ _ _ _ _
  refine .mk _ _ (CloneInts_spec g.w (by omega)) rfl ?_
  show ADCall _ _ _ _ _ _
  refine .mk _ _ (ClonePages_spec g.pages (by omega)) rfl ?_
  show ADCall _ _ _ _ _ _
  refine .mk _ _ (CloneBoolsOwn_spec g.cards (by omega) (by intro e; rw [e] at hc; simp at hc; omega)) rfl ?_
  show ∃ n, _
  refine ⟨4, ?_⟩
  show ALoop _ _ _ _
  refine .next ?_
  show ABr _ _ _
  refine ⟨fun _ => ?_, fun h => absurd h (by decide)⟩
  show AOb _ _
  refine ⟨by decide, ?_⟩
  show ACall _ _ _ _ _ _
  refine call_ret (CloneInts_spec g.free.l0 (by omega)) rfl ?_
  show AOb _ _
  refine ⟨by decide, ?_⟩
  show ALoop _ _ _ _
  refine .next ?_
  show ABr _ _ _
  refine ⟨fun _ => ?_, fun h => absurd h (by decide)⟩
  show AOb _ _
  refine ⟨by decide, ?_⟩
  show ACall _ _ _ _ _ _
  refine call_ret (CloneInts_spec g.free.l1 (by omega)) rfl ?_
  show AOb _ _
  refine ⟨by decide, ?_⟩
  show ALoop _ _ _ _
  refine .next ?_
  show ABr _ _ _
  refine ⟨fun _ => ?_, fun h => absurd h (by decide)⟩
  show AOb _ _
  refine ⟨by decide, ?_⟩
  show ACall _ _ _ _ _ _
  refine call_ret (CloneInts_spec g.free.l2 (by omega)) rfl ?_
  show AOb _ _
  refine ⟨by decide, ?_⟩
  show ALoop _ _ _ _
  refine .next ?_
  show ABr _ _ _
  refine ⟨fun h => absurd h (by decide), fun _ => ?_⟩
  show AOb ((0 : Int) ≤ c ∧ c < (g.cards.length : Int)) _
  refine ⟨hc, ?_⟩
  show AOb (c.toNat < g.cards.length) _
  refine ⟨by omega, ?_⟩
  show ARet _ _ _
  exact ⟨[], [], _, .cons _ _ _ _ (.agg _ _ (.cons _ _ _ _ (.d _) (.cons _ _ _ _ (.d _) (.cons _ _ _ _ (.d _) (.cons _ _ _ _ (.d _) (.cons _ _ _ _ (.d _) (.cons _ _ _ _ (.frz_eq (k := .bool) (l := g.cards.set c.toNat b) rfl rfl) .nil))))))) .nil, .nil, rfl, rfl, rfl⟩

theorem cardE_of {g : Hp} {a : Int} (h : cardE g a = 0) : mayH g [] = true ∧ 16 ≤ a ∧ a < 16 + (g.w.length : Int) := by
  unfold cardE at h
  cases hm : mayH g [] with
  | false => rw [hm] at h; exact absurd h (by simp)
  | true =>
    rw [hm] at h
    by_cases hr : 16 ≤ a ∧ a < 16 + (g.w.length : Int)
    · exact ⟨rfl, hr⟩
    · rw [decide_eq_false hr] at h; exact absurd h (by simp)
theorem cardE_mk {g : Hp} {a : Int} (h : mayH g [] = true) (ha : 16 ≤ a ∧ a < 16 + (g.w.length : Int)) : cardE g a = 0 := by unfold cardE; rw [h, decide_eq_true ha]; rfl
theorem cardOf_yes {g : Hp} {a : Int} (h : cardE g a = 0) : cardOf g a = (a - 16) / 8 := by unfold cardOf; rw [h]; rfl
theorem cardOf_no {g : Hp} {a : Int} (h : cardE g a ≠ 0) : cardOf g a = 0 := by unfold cardOf; rw [decide_eq_false h]; rfl
theorem card_in {g : Hp} {a : Int} (h : cardE g a = 0) : 0 ≤ cardOf g a ∧ cardOf g a < (g.cards.length : Int) := by
  obtain ⟨hm, h1, h2⟩ := cardE_of h
  obtain ⟨_, _, h3, h4, _⟩ := shapedH_of (mayH_shaped hm)
  rw [cardOf_yes h]
  omega

theorem cOf10_spec (g : Hp) (a : Int) (hl : g.light) (ha : a < 9223372036854775808) : Spec X 53 [] [g.tv, .int a] (Ret [] (.tup [.int (cardOf g a), .int (cardE g a)])) := by
  refine spec_go X_ok Tryz.f53 (by kernel_rfl) (by kernel_rfl) (by kernel_rfl) fun hb hH => ⟨rfl, ?_⟩
  show ACall _ _ _ _ _ _
  refine call_ret (hHMay0_spec g hl) rfl ?_
  show ABr (!mayH g []) _ _
  refine ⟨fun h => ?_, fun h => ?_⟩
  · have hm : mayH g [] = false := by simpa using h
    have hE : cardE g a = 1 := by unfold cardE; rw [hm]; rfl
    rw [hE, cardOf_no (by rw [hE]; decide)]
    show ARet _ _ _
    exact ret_d rfl ⟨rfl, rfl⟩
  have hm : mayH g [] = true := by simpa using h
  have hs := mayH_shaped hm
  obtain ⟨_, _, hsl, _, hp1, hp2⟩ := shapedH_of hs
  have ho : ¬ (16 ≤ a ∧ a < 16 + (g.w.length : Int)) → cardE g a = 3 := fun h => by unfold cardE; rw [hm, decide_eq_false h]; rfl
  show ABr (decide (a < 16)) _ _
  refine ⟨fun h => ?_, fun h => ?_⟩
  · have hE := ho (by have := of_decide_eq_true h; omega)
    rw [hE, cardOf_no (by rw [hE]; decide)]
    show ABr (decide (a < 16)) _ _
    rw [h]
    show ABr _ _ _
    refine ⟨fun _ => ?_, fun h => absurd h (by decide)⟩
    show ARet _ _ _
    exact ret_d rfl ⟨rfl, rfl⟩
  · have h16 := of_decide_eq_false h
    have ew : IntKind.i64.wrap (a - 16) = a - 16 := wrap64 (by omega) (by omega)
    show ABr (decide (IntKind.i64.wrap (a - 16) ≥ (g.w.length : Int))) _ _
    rw [ew]
    refine ⟨fun h => ?_, fun h => ?_⟩
    · have hE := ho (by have := of_decide_eq_true h; omega)
      rw [hE, cardOf_no (by rw [hE]; decide)]
      show ARet _ _ _
      exact ret_d rfl ⟨rfl, rfl⟩
    · have hin : 16 ≤ a ∧ a < 16 + (g.w.length : Int) := by have := of_decide_eq_false h; omega
      have hE := cardE_mk hm hin
      have ed : tdv (IntKind.i64.wrap (a - 16)) 8 = (a - 16) / 8 := by rw [ew]; exact tdv_eq (by omega) (by omega) (by omega)
      rw [hE, cardOf_yes hE, ← ed]
      show AOb _ _
      refine ⟨by decide, ?_⟩
      show ARet _ _ _
      exact ret_d rfl ⟨rfl, rfl⟩

theorem Dirty_spec (g : Hp) (a : Int) (hl : g.light) (ha : a < 9223372036854775808) : Spec X 98 [] [g.tv, .int a] (Ret [] (.tup [(dirtyH g a).tv, .int (cardE g a)])) := by
  refine spec_go X_ok Tryz.f98 (by kernel_rfl) (by kernel_rfl) (by kernel_rfl) fun hb hH => ⟨rfl, ?_⟩
  show ACall _ _ _ _ _ _
  refine call_ret (cOf10_spec g a hl ha) rfl ?_
  show ABr (cardE g a != 0) _ _
  refine ⟨fun h => ?_, fun h => ?_⟩
  · have hE : cardE g a ≠ 0 := by simpa using h
    rw [show dirtyH g a = Hp.zero from by unfold dirtyH; rw [decide_eq_false hE]; rfl]
    show ARet _ _ _
    exact ⟨[], [], _, .cons _ _ _ _ (.agg _ _ (.cons _ _ _ _ (.nilsl .int) (.cons _ _ _ _ (.nilsl .page) (.cons _ _ _ _ (.nilsl .int) (.cons _ _ _ _ (.nilsl .int) (.cons _ _ _ _ (.nilsl .int) (.cons _ _ _ _ (.nilsl .bool) .nil))))))) (.cons _ _ _ _ .same .nil), .nil, rfl, rfl, rfl⟩
  · have hE : cardE g a = 0 := by simpa using h
    have hs := mayH_shaped (cardE_of hE).1
    rw [show dirtyH g a = cset g (cardOf g a) true from by unfold dirtyH; rw [hE]; rfl, hE]
    show ACall _ _ _ _ _ _
    refine call_ret (cset_spec g (cardOf g a) true hl hs (card_in hE)) rfl ?_
    show ARet _ _ _
    exact ret_d rfl ⟨rfl, rfl⟩

theorem Is_spec (g : Hp) (a : Int) (hl : g.light) (ha : a < 9223372036854775808) : Spec X 21 [] [g.tv, .int a] (Ret [] (.bo (isDirty g a))) := by
  refine spec_go X_ok Tryz.f21 (by kernel_rfl) (by kernel_rfl) (by kernel_rfl) fun hb hH => ⟨rfl, ?_⟩
  show ACall _ _ _ _ _ _
  refine call_ret (cOf10_spec g a hl ha) rfl ?_
  have hin : (cardE g a == 0) = true ∧ True → 0 ≤ cardOf g a ∧ cardOf g a < (g.cards.length : Int) := fun h => card_in (by simpa using h.1)
  show AOb ((cardE g a == 0) = true ∧ True → 0 ≤ cardOf g a ∧ cardOf g a < (g.cards.length : Int)) _
  refine ⟨hin, ?_⟩
  show ARet _ _ _
  refine ret_bo (x := bif cardE g a == 0 then g.cards.getD (cardOf g a).toNat default else false) ?_ ⟨rfl, rfl⟩
  unfold isDirty
  by_cases h : cardE g a = 0
  · rw [h]; rfl
  · have h' : (cardE g a == 0) = false := by simp [h]
    rw [h', decide_eq_false h]
    rfl

theorem cset_len (g : Hp) (c : Int) (b : Bool) : (cset g c b).cards.length = g.cards.length := by unfold cset; simp
theorem dirtyH_yes {g : Hp} {a : Int} (h : cardE g a = 0) : dirtyH g a = cset g (cardOf g a) true := by unfold dirtyH; rw [h]; rfl
theorem dirtyH_no {g : Hp} {a : Int} (h : cardE g a ≠ 0) : dirtyH g a = Hp.zero := by unfold dirtyH; rw [decide_eq_false h]; rfl
end Go.Abs
