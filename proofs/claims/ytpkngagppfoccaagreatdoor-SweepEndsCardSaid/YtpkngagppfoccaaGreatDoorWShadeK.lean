/- Walks: colours, what shading does. -/
import Derived.Test.YtpkngagppfoccaaGreatDoorWShade
import Derived.Test.YtpkngagppfoccaaGreatDoorWSame07
import Derived.Test.YtpkngagppfoccaaGreatDoorWHeap4
set_option linter.all false
set_option linter.unusedVariables false
set_option linter.unusedSimpArgs false
namespace Go.Abs
open Go.Proofs Go.Proofs.YtpkngagppfoccaaGreatDoor
set_option maxRecDepth 8000

theorem col_same (a b : Col) : decide (a = b) = (bif (bif (bif (bif (bif (bif decide (a.work = b.work) then (bif (bif (bif a.phase == b.phase then a.epoch == b.epoch else false) then a.major == b.major else false) then a.over == b.over else false) else false) then a.at_ == b.at_ else false) then a.field_ == b.field_ else false) then a.seek == b.seek else false) then a.card == b.card else false) then a.met == b.met else false) := by
  obtain ⟨a1, a2, a3, a4, a5, a6, a7, a8, a9, a10⟩ := a
  obtain ⟨b1, b2, b3, b4, b5, b6, b7, b8, b9, b10⟩ := b
  rw [Bool.eq_iff_iff]
  simp [Bool.cond_eq_ite]
  constructor
  · rintro ⟨h1, h2, h3, h4, h5, h6, h7, h8, h9, h10⟩
    simp [*]
  · intro h
    simp [h]

theorem cSame_spec (a b : Col) : Spec X 15 [] [a.tv, b.tv] (Ret [] (.bo (decide (a = b)))) := by
  refine spec_go X_ok Tryz.f15 (by kernel_rfl) (by kernel_rfl) (by kernel_rfl) fun hb hH => ⟨rfl, ?_⟩
  show ACall _ _ _ _ _ _
  refine call_ret (Ints_spec a.work b.work) rfl ?_
  rw [col_same]
  show ARet _ _ _
  exact ret_d rfl ⟨rfl, rfl⟩

def few11 (g : Hp) (c : Col) : Bool := fewH g && decide (c.work.length ≤ 100)

theorem few_small {g : Hp} (h : fewH g = true) : g.small := by
  unfold fewH at h
  have := of_decide_eq_true h
  unfold Hp.small most
  omega

def g11 : Hp := ⟨[0, 0, 0, 0, 0, 0, 0, 0, 41, 0, 0, 0, 0, 0, 0, 0], [⟨1, 2⟩], ⟨[], [], []⟩, [false, false]⟩
def c11 : Col := ⟨0, 1, false, [], false, 0, 0, 0, 0, false⟩
theorem v11 : whiteH g11 c11 24 = true ∧ whiteH (shadeG g11 c11 24) (shadeC g11 c11 24) 24 = false ∧ (shadeC g11 c11 24).work = [24] ∧ greyH (shadeG g11 c11 24) (shadeC g11 c11 24) = [24] := by decide +kernel
theorem g11_light : g11.light := light_of (by decide) (by decide) (by decide)
theorem g11_small : g11.small := by unfold Hp.small most g11; decide
theorem set_light {g : Hp} (h : g.light) (a : Int) (x : Hd) : (setH g a x).light := by
  unfold setH
  cases decide (setE g a x = 0)
  · exact zero_light
  · exact h
theorem shade_light {g : Hp} (h : g.light) (c : Col) (a : Int) : (shadeG g c a).light := by
  unfold shadeG
  cases decide (atK g c a = 1)
  · exact h
  · exact set_light h a _

end Go.Abs

namespace Go.Abs
open Go.Proofs Go.Proofs.YtpkngagppfoccaaGreatDoor
set_option maxRecDepth 8000

theorem at_zero (g : Hp) (c : Col) : atK g c 0 = 0 := by
  unfold atK
  by_cases h : headE g 0 = 0
  · have := room_adr (headE_of h).2.1
    unfold adr at this
    omega
  · rw [decide_eq_false h]
    rfl

theorem at_one {g : Hp} {c : Col} {a : Int} (h : atK g c a = 1) : headE g a = 0 ∧ (headH g a).mark < c.epoch := by
  unfold atK at h
  by_cases h0 : headE g a = 0
  · refine ⟨h0, ?_⟩
    rw [decide_eq_true h0] at h
    have h : colour c (headH g a) = 1 := h
    unfold colour at h
    by_cases h1 : (headH g a).mark < c.epoch
    · exact h1
    · exfalso
      rw [decide_eq_false h1] at h
      revert h
      generalize (bif (bif (bif (headH g a).old then !c.major else false) then true else decide (c.epoch < 0)) then true else decide (c.epoch > 1048576)) = q
      cases q <;> cases (headH g a).done <;> decide
  · rw [decide_eq_false h0] at h
    have h : (0 : Int) = 1 := h
    exact absurd h (by decide)

theorem shade_ne {g : Hp} {c : Col} {a : Int} (h : atK g c a = 1) : shadeG g c a ≠ g := by
  intro e
  obtain ⟨h0, h1⟩ := at_one h
  unfold shadeG at e
  rw [decide_eq_true h] at e
  have e : setH g a (markH g c a) = g := e
  by_cases hE : setE g a (markH g c a) = 0
  · rw [setH_yes hE] at e
    obtain ⟨hp, _⟩ := setE_ok hE
    have h2 := (head_put hp h0).2
    rw [if_pos rfl, e] at h2
    have h3 : (headH g a).mark = c.epoch := by rw [h2]; rfl
    omega
  · rw [setH_no rfl hE] at e
    obtain ⟨_, _, h2, _, h3, _⟩ := shapedH_of (mayH_shaped (headE_of h0).1)
    rw [← e] at h2 h3
    exact absurd h3 (by decide)

end Go.Abs

namespace Go.Abs

/-- Is an object of the cycle's? -/
def inC (c : Col) (x : Hd) : Prop := (x.old = false ∨ c.major = true) ∧ 0 ≤ c.epoch ∧ c.epoch ≤ 1048576

theorem colour_out {c : Col} {x : Hd} : (bif (bif (bif x.old then !c.major else false) then true else decide (c.epoch < 0)) then true else decide (c.epoch > 1048576)) = false ↔ inC c x := by
  unfold inC
  cases x.old <;> cases c.major <;> simp [Bool.cond_eq_ite] <;> omega

theorem colour_iff {c : Col} {x : Hd} : (colour c x = 1 ↔ inC c x ∧ x.mark < c.epoch) ∧ (colour c x = 2 ↔ inC c x ∧ c.epoch ≤ x.mark ∧ x.done = false) ∧ (colour c x = 3 ↔ inC c x ∧ c.epoch ≤ x.mark ∧ x.done = true) := by
  unfold colour
  rw [← colour_out]
  generalize (bif (bif (bif x.old then !c.major else false) then true else decide (c.epoch < 0)) then true else decide (c.epoch > 1048576)) = q
  cases q with
  | true => simp
  | false =>
    by_cases h : x.mark < c.epoch
    · simp [h]
      omega
    · have h' : c.epoch ≤ x.mark := by omega
      cases x.done <;> simp [h, h']

theorem colour_nonneg (c : Col) (x : Hd) : 0 ≤ colour c x ∧ colour c x ≤ 3 := by
  unfold colour
  generalize (bif (bif (bif x.old then !c.major else false) then true else decide (c.epoch < 0)) then true else decide (c.epoch > 1048576)) = q
  cases q <;> cases decide (x.mark < c.epoch) <;> cases x.done <;> decide

theorem atK_yes {g : Hp} {c : Col} {a : Int} (h : headE g a = 0) : atK g c a = colour c (headH g a) := by unfold atK; rw [decide_eq_true h]; rfl
theorem atK_no {g : Hp} {c : Col} {a : Int} (h : headE g a ≠ 0) : atK g c a = 0 := by unfold atK; rw [decide_eq_false h]; rfl
theorem atK_ne {g : Hp} {c : Col} {a : Int} (h : atK g c a ≠ 0) : headE g a = 0 := by
  by_cases h0 : headE g a = 0
  · exact h0
  · exact absurd (atK_no h0) h
theorem atK_nonneg (g : Hp) (c : Col) (a : Int) : 0 ≤ atK g c a ∧ atK g c a ≤ 3 := by
  by_cases h : headE g a = 0
  · rw [atK_yes h]; exact colour_nonneg _ _
  · rw [atK_no h]; decide

/-- A colour leans on the epoch, and whether the cycle is a major one, alone. -/
theorem colour_col {c d : Col} (h1 : d.epoch = c.epoch) (h2 : d.major = c.major) (x : Hd) : colour d x = colour c x := by unfold colour; rw [h1, h2]
theorem atK_col {c d : Col} (h1 : d.epoch = c.epoch) (h2 : d.major = c.major) (g : Hp) (a : Int) : atK g d a = atK g c a := by unfold atK; rw [colour_col h1 h2]

/-! Heads. -/
theorem head_may {g : Hp} {a : Int} (h : headE g a = 0) : (headH g a).May ∧ (headH g a).used = true := by
  obtain ⟨hm, hr, hu⟩ := headE_of h
  rw [headH_yes h]
  have hc := (mayH_of hm).2.2.1 a (mem_starts.2 hr)
  unfold cellB at hc
  rw [Bool.and_eq_true] at hc
  obtain ⟨e, h2⟩ := isHd_unp hc.1
  rw [e]
  rw [e] at hu
  exact ⟨h2, hu⟩

theorem putok_of {g : Hp} {a : Int} {x : Hd} (h0 : headE g a = 0) (hx : x.May) (hu : x.used = true) (hn : x.n = (headH g a).n) : PutOk g a x ∧ setE g a x = 0 := by
  have h : setE g a x = 0 := by unfold setE; rw [decide_eq_true h0, decide_eq_true ⟨hx, hu, hn⟩]; rfl
  exact ⟨(setE_ok h).1, h⟩

theorem headE_may {g : Hp} (hm : mayH g [] = true) (a : Int) : headE g a = 0 ∨ headE g a = 3 := by
  unfold headE
  rw [hm]
  cases decide (roomAt g.pages a = 0) <;> cases (unp (wordAt g a)).used <;> simp

theorem put_head {g : Hp} {a : Int} {x : Hd} (h : PutOk g a x) (u : Int) : headE (putH g a x.word) u = headE g u ∧ headH (putH g a x.word) u = if u = a then x else headH g u := by
  have hm := h.may
  have hm' : mayH (putH g a x.word) [] = true := by rw [may_put h]; exact hm
  have hiff : headE (putH g a x.word) u = 0 ↔ headE g u = 0 := by rw [← mem_usedH, ← mem_usedH, used_put h]
  by_cases h0 : headE g u = 0
  · obtain ⟨h1, h2⟩ := head_put h h0
    exact ⟨by rw [h1, h0], h2⟩
  · have h0' : headE (putH g a x.word) u ≠ 0 := fun e => h0 (hiff.1 e)
    have e1 := headE_may hm u
    have e2 := headE_may hm' u
    refine ⟨by omega, ?_⟩
    have hne : u ≠ a := by
      intro e
      subst e
      apply h0
      unfold headE
      rw [hm, decide_eq_false h.room, h.used]
      rfl
    rw [if_neg hne, headH_no rfl h0', headH_no rfl h0]

theorem head_self {g : Hp} {a : Int} (h0 : headE g a = 0) : headE g a = 0 ∧ (headH g a).May ∧ (headH g a).used = true := ⟨h0, head_may h0⟩

/-! Shading. -/
theorem mark_may {g : Hp} {c : Col} {a : Int} (h : atK g c a = 1) : headE g a = 0 ∧ PutOk g a (markH g c a) ∧ setE g a (markH g c a) = 0 := by
  have h0 : headE g a = 0 := atK_ne (c := c) (by omega)
  rw [atK_yes h0] at h
  obtain ⟨⟨_, h1, h2⟩, h3⟩ := colour_iff.1.1 h
  obtain ⟨hm, hu⟩ := head_may h0
  have hx : (markH g c a).May := by
    unfold Hd.May at hm ⊢
    rw [if_pos hu] at hm
    have hu' : (markH g c a).used = true := hu
    rw [if_pos hu']
    exact ⟨hm.1, hm.2.1, h1, h2⟩
  exact ⟨h0, putok_of h0 hx hu rfl⟩

theorem shadeG_yes {g : Hp} {c : Col} {a : Int} (h : atK g c a = 1) : shadeG g c a = putH g a (markH g c a).word := by
  unfold shadeG
  rw [decide_eq_true h]
  exact setH_yes (mark_may h).2.2
theorem shadeG_no {g : Hp} {c : Col} {a : Int} (h : atK g c a ≠ 1) : shadeG g c a = g := by unfold shadeG; rw [decide_eq_false h]; rfl
theorem shadeC_no {g : Hp} {c : Col} {a : Int} (h : atK g c a ≠ 1) : shadeC g c a = c := by unfold shadeC; rw [decide_eq_false h]; rfl
theorem shadeC_yes {g : Hp} {c : Col} {a : Int} (h : atK g c a = 1) : shadeC g c a = if c.work.length < 4 then { c with work := c.work ++ [a] } else { c with over := true } := by
  unfold shadeC
  rw [decide_eq_true h]
  by_cases h4 : c.work.length < 4
  · rw [if_pos h4, decide_eq_true (show (c.work.length : Int) < 4 by omega)]; rfl
  · rw [if_neg h4, decide_eq_false (show ¬ (c.work.length : Int) < 4 by omega)]; rfl

/-- What of the collector shading leaves. -/
structure SameC (c d : Col) : Prop where
  phase : d.phase = c.phase
  epoch : d.epoch = c.epoch
  major : d.major = c.major
  at_ : d.at_ = c.at_
  field_ : d.field_ = c.field_
  seek : d.seek = c.seek
  card : d.card = c.card
  met : d.met = c.met

theorem shadeC_same (g : Hp) (c : Col) (a : Int) : SameC c (shadeC g c a) := by
  unfold shadeC
  cases decide (atK g c a = 1)
  · exact ⟨rfl, rfl, rfl, rfl, rfl, rfl, rfl, rfl⟩
  · cases decide ((c.work.length : Int) < 4) <;> exact ⟨rfl, rfl, rfl, rfl, rfl, rfl, rfl, rfl⟩

theorem atK_shadeC (g k : Hp) (c : Col) (a u : Int) : atK k (shadeC g c a) u = atK k c u := atK_col (shadeC_same g c a).epoch (shadeC_same g c a).major k u

theorem shadeG_head (g : Hp) (c : Col) (a u : Int) : headE (shadeG g c a) u = headE g u ∧ headH (shadeG g c a) u = if u = a ∧ atK g c a = 1 then markH g c a else headH g u := by
  by_cases h : atK g c a = 1
  · rw [shadeG_yes h]
    obtain ⟨h1, h2⟩ := put_head (mark_may h).2.1 u
    refine ⟨h1, ?_⟩
    rw [h2]
    by_cases e : u = a
    · rw [if_pos e, if_pos ⟨e, h⟩]
    · rw [if_neg e, if_neg (fun k => e k.1)]
  · rw [shadeG_no h, if_neg (fun k => h k.2)]
    exact ⟨rfl, rfl⟩

theorem atK_shade (g : Hp) (c : Col) (a u : Int) : atK (shadeG g c a) c u = if u = a ∧ atK g c a = 1 then 2 else atK g c u := by
  obtain ⟨h1, h2⟩ := shadeG_head g c a u
  by_cases h0 : headE g u = 0
  · rw [atK_yes (h1.trans h0), h2]
    by_cases h : u = a ∧ atK g c a = 1
    · rw [if_pos h, if_pos h]
      have h3 := h.2
      rw [atK_yes (mark_may h.2).1] at h3
      have h4 := colour_iff.1.1 h3
      exact colour_iff.2.1.2 ⟨h4.1, Int.le_refl _, rfl⟩
    · rw [if_neg h, if_neg h, atK_yes h0]
  · rw [atK_no (fun e => h0 (h1.symm.trans e)), atK_no h0, if_neg]
    rintro ⟨e, h⟩
    subst e
    exact h0 (mark_may h).1

theorem shadeG_may (g : Hp) (c : Col) (a : Int) (cs : List Lists) : mayH (shadeG g c a) cs = mayH g cs := by
  by_cases h : atK g c a = 1
  · rw [shadeG_yes h, may_put (mark_may h).2.1]
  · rw [shadeG_no h]
theorem shadeG_whole (g : Hp) (c : Col) (a : Int) (cs : List Lists) : wholeH (shadeG g c a) cs = wholeH g cs := by
  by_cases h : atK g c a = 1
  · rw [shadeG_yes h, whole_put (mark_may h).2.1]
  · rw [shadeG_no h]
theorem shadeG_used (g : Hp) (c : Col) (a : Int) : usedH (shadeG g c a) = usedH g := by
  by_cases h : atK g c a = 1
  · rw [shadeG_yes h, used_put (mark_may h).2.1]
  · rw [shadeG_no h]
theorem shadeG_rest (g : Hp) (c : Col) (a : Int) : (shadeG g c a).pages = g.pages ∧ (shadeG g c a).free = g.free ∧ (shadeG g c a).cards = g.cards ∧ (shadeG g c a).w.length = g.w.length := by
  by_cases h : atK g c a = 1
  · rw [shadeG_yes h]
    exact ⟨rfl, rfl, rfl, List.length_set⟩
  · rw [shadeG_no h]
    exact ⟨rfl, rfl, rfl, rfl⟩
theorem shadeG_word (g : Hp) (c : Col) (a : Int) (i : Nat) (h : (shadeG g c a).w.getD i default ≠ g.w.getD i default) : (i : Int) = a - 16 ∧ atK g c a = 1 := by
  by_cases h1 : atK g c a = 1
  · refine ⟨?_, h1⟩
    rw [shadeG_yes h1] at h
    have had := room_adr (h := g) (mark_may h1).2.1.room
    by_cases e : (a - 16).toNat = i
    · have := had.1; omega
    · exfalso
      apply h
      show (g.w.set (a - 16).toNat _).getD i default = _
      rw [List.getD_eq_getElem?_getD, List.getD_eq_getElem?_getD, List.getElem?_set_ne e]
  · rw [shadeG_no h1] at h
    exact absurd rfl h

theorem few_same {g k : Hp} (h1 : k.w.length = g.w.length) (h2 : k.pages = g.pages) (h3 : k.free = g.free) (h4 : k.cards.length = g.cards.length) : fewH k = fewH g := by unfold fewH; rw [h1, h2, h3, h4]
theorem shadeG_few (g : Hp) (c : Col) (a : Int) : fewH (shadeG g c a) = fewH g := by
  obtain ⟨h1, h2, h3, h4⟩ := shadeG_rest g c a
  exact few_same h4 h1 h2 (by rw [h3])

/-! Making black. -/
theorem done_may {g : Hp} {c : Col} {a : Int} (h : atK g c a = 2) : headE g a = 0 ∧ PutOk g a (doneH g a) ∧ setE g a (doneH g a) = 0 := by
  have h0 : headE g a = 0 := atK_ne (c := c) (by omega)
  obtain ⟨hm, hu⟩ := head_may h0
  have hx : (doneH g a).May := by
    unfold Hd.May at hm ⊢
    rw [if_pos hu] at hm
    have hu' : (doneH g a).used = true := hu
    rw [if_pos hu']
    exact hm
  exact ⟨h0, putok_of h0 hx hu rfl⟩
theorem blackG_yes {g : Hp} {c : Col} {a : Int} (h : atK g c a = 2) : blackG g c a = putH g a (doneH g a).word := by
  unfold blackG
  rw [decide_eq_true h]
  exact setH_yes (done_may h).2.2
theorem blackG_no {g : Hp} {c : Col} {a : Int} (h : atK g c a ≠ 2) : blackG g c a = g := by unfold blackG; rw [decide_eq_false h]; rfl
theorem blackG_head (g : Hp) (c : Col) (a u : Int) : headE (blackG g c a) u = headE g u ∧ headH (blackG g c a) u = if u = a ∧ atK g c a = 2 then doneH g a else headH g u := by
  by_cases h : atK g c a = 2
  · rw [blackG_yes h]
    obtain ⟨h1, h2⟩ := put_head (done_may h).2.1 u
    refine ⟨h1, ?_⟩
    rw [h2]
    by_cases e : u = a
    · rw [if_pos e, if_pos ⟨e, h⟩]
    · rw [if_neg e, if_neg (fun k => e k.1)]
  · rw [blackG_no h, if_neg (fun k => h k.2)]
    exact ⟨rfl, rfl⟩
theorem atK_black (g : Hp) (c : Col) (a u : Int) : atK (blackG g c a) c u = if u = a ∧ atK g c a = 2 then 3 else atK g c u := by
  obtain ⟨h1, h2⟩ := blackG_head g c a u
  by_cases h0 : headE g u = 0
  · rw [atK_yes (h1.trans h0), h2]
    by_cases h : u = a ∧ atK g c a = 2
    · rw [if_pos h, if_pos h]
      have h3 := h.2
      rw [atK_yes (done_may h.2).1] at h3
      have h4 := colour_iff.2.1.1 h3
      exact colour_iff.2.2.2 ⟨h4.1, h4.2.1, rfl⟩
    · rw [if_neg h, if_neg h, atK_yes h0]
  · rw [atK_no (fun e => h0 (h1.symm.trans e)), atK_no h0, if_neg]
    rintro ⟨e, h⟩
    subst e
    exact h0 (done_may h).1
theorem blackG_may (g : Hp) (c : Col) (a : Int) (cs : List Lists) : mayH (blackG g c a) cs = mayH g cs := by
  by_cases h : atK g c a = 2
  · rw [blackG_yes h, may_put (done_may h).2.1]
  · rw [blackG_no h]
theorem blackG_whole (g : Hp) (c : Col) (a : Int) (cs : List Lists) : wholeH (blackG g c a) cs = wholeH g cs := by
  by_cases h : atK g c a = 2
  · rw [blackG_yes h, whole_put (done_may h).2.1]
  · rw [blackG_no h]
theorem blackG_used (g : Hp) (c : Col) (a : Int) : usedH (blackG g c a) = usedH g := by
  by_cases h : atK g c a = 2
  · rw [blackG_yes h, used_put (done_may h).2.1]
  · rw [blackG_no h]
theorem blackG_rest (g : Hp) (c : Col) (a : Int) : (blackG g c a).pages = g.pages ∧ (blackG g c a).free = g.free ∧ (blackG g c a).cards = g.cards ∧ (blackG g c a).w.length = g.w.length := by
  by_cases h : atK g c a = 2
  · rw [blackG_yes h]
    exact ⟨rfl, rfl, rfl, List.length_set⟩
  · rw [blackG_no h]
    exact ⟨rfl, rfl, rfl, rfl⟩
theorem blackG_few (g : Hp) (c : Col) (a : Int) : fewH (blackG g c a) = fewH g := by
  obtain ⟨h1, h2, h3, h4⟩ := blackG_rest g c a
  exact few_same h4 h1 h2 (by rw [h3])
theorem blackG_word (g : Hp) (c : Col) (a : Int) (i : Nat) (h : (blackG g c a).w.getD i default ≠ g.w.getD i default) : (i : Int) = a - 16 ∧ atK g c a = 2 := by
  by_cases h1 : atK g c a = 2
  · refine ⟨?_, h1⟩
    rw [blackG_yes h1] at h
    have had := room_adr (h := g) (done_may h1).2.1.room
    by_cases e : (a - 16).toNat = i
    · have := had.1; omega
    · exfalso
      apply h
      show (g.w.set (a - 16).toNat _).getD i default = _
      rw [List.getD_eq_getElem?_getD, List.getD_eq_getElem?_getD, List.getElem?_set_ne e]
  · rw [blackG_no h1] at h
    exact absurd rfl h

/-- Is all that is grey on the work list, or the collector over? -/
def listedK (g : Hp) (c : Col) : Bool := c.over || (greyH g c).all fun x => c.work.contains x

theorem mem_grey {g : Hp} {c : Col} {u : Int} : u ∈ greyH g c ↔ atK g c u = 2 := by
  unfold greyH
  rw [List.mem_filter, mem_usedH, decide_eq_true_eq]
  exact ⟨fun h => h.2, fun h => ⟨atK_ne (c := c) (by omega), h⟩⟩

theorem listedK_iff {g : Hp} {c : Col} : listedK g c = true ↔ c.over = true ∨ ∀ u, atK g c u = 2 → u ∈ c.work := by
  unfold listedK
  rw [Bool.or_eq_true, List.all_eq_true]
  refine or_congr Iff.rfl ⟨fun h u hu => List.contains_iff_mem.1 (h u (mem_grey.2 hu)), fun h u hu => List.contains_iff_mem.2 (h u (mem_grey.1 hu))⟩

theorem listed_shade {g : Hp} {c : Col} {a : Int} (h : listedK g c = true) : listedK (shadeG g c a) (shadeC g c a) = true := by
  by_cases h1 : atK g c a = 1
  · rw [listedK_iff] at h ⊢
    rw [shadeC_yes h1]
    by_cases h4 : c.work.length < 4
    · rw [if_pos h4]
      rcases h with h | h
      · exact .inl h
      · refine .inr fun u hu => ?_
        have hu : atK (shadeG g c a) c u = 2 := by rw [← hu]; exact (atK_col (c := c) (d := { c with work := c.work ++ [a] }) rfl rfl _ _).symm
        rw [atK_shade] at hu
        show u ∈ c.work ++ [a]
        rw [List.mem_append, List.mem_singleton]
        by_cases e : u = a ∧ atK g c a = 1
        · exact .inr e.1
        · rw [if_neg e] at hu
          exact .inl (h u hu)
    · rw [if_neg h4]
      exact .inl rfl
  · rw [shadeG_no h1, shadeC_no h1]
    exact h
end Go.Abs
