/- How threads answer the collector, in plain Lean. -/
import Derived.Test.YtpaidgcpjeagkaaGreatDoorWShadeK
import Derived.Test.YtpaidgcpjeagkaaGreatDoorWRef12
set_option linter.all false
set_option linter.unusedVariables false
set_option linter.unusedSimpArgs false
namespace Go.Abs

abbrev Thread.mayT (t : Thread) : Prop := 0 ≤ t.stage ∧ t.stage ≤ 3 ∧ 0 ≤ t.root ∧ t.root ≤ 3 ∧ 0 ≤ t.pc ∧ t.pc ≤ 4 ∧ (t.ops.length : Int) ≤ 200 ∧ (t.pc = 0 ∨ 0 < (t.ops.length : Int))
def wantsH (p : Int) : Int := if p = 0 then 0 else if p = 1 then 1 else if p = 2 then 2 else 3
def answeredB (c : Col) (t : Thread) : Bool :=
  if c.phase = 0 then true else if c.phase = 1 then decide (t.epoch = c.epoch) else if c.phase = 2 then decide (t.epoch = c.epoch ∧ 2 ≤ t.stage) else decide (t.epoch = c.epoch ∧ t.stage = 3)
def askedB (c : Col) (t : Thread) : Bool := t.live && (decide t.mayT && (decide (t.pc = 0) && !answeredB c t))

/-- What kind of answer: none; that it knows; that it has settled; a register. -/
def ansKind (c : Col) (t : Thread) : Nat := if askedB c t = true then (if t.epoch ≠ c.epoch then 1 else if c.phase = 2 then 2 else 3) else 0
def ansT (c : Col) (t : Thread) : Thread := match ansKind c t with
  | 0 => t
  | 1 => { t with epoch := c.epoch, stage := 1, root := 0 }
  | 2 => { t with stage := 2 }
  | _ => if t.root = 3 then { t with root := 0, stage := 3 } else { t with root := t.root + 1 }
def ansG (g : Hp) (c : Col) (t : Thread) : Hp := if ansKind c t = 3 then shadeG g c (t.reg t.root) else g
def ansC (g : Hp) (c : Col) (t : Thread) : Col := if ansKind c t = 3 then shadeC g c (t.reg t.root) else c

theorem asked_of {c : Col} {t : Thread} (h : askedB c t = true) : t.live = true ∧ t.mayT ∧ t.pc = 0 ∧ answeredB c t = false := by
  unfold askedB at h
  rw [Bool.and_eq_true, Bool.and_eq_true, Bool.and_eq_true, decide_eq_true_eq, decide_eq_true_eq, Bool.not_eq_true'] at h
  exact h
theorem asked_mk {c : Col} {t : Thread} (h1 : t.live = true) (h2 : t.mayT) (h3 : t.pc = 0) (h4 : answeredB c t = false) : askedB c t = true := by
  unfold askedB
  rw [h1, decide_eq_true h2, decide_eq_true h3, h4]
  rfl
theorem asked_not {c : Col} {t : Thread} (h : answeredB c t = true) : askedB c t = false := by
  unfold askedB
  rw [h]
  simp

theorem ans_no {c : Col} {t : Thread} (h : askedB c t = false) : ansKind c t = 0 := by unfold ansKind; rw [if_neg (by rw [h]; decide)]
theorem ansT_no {c : Col} {t : Thread} (h : askedB c t = false) : ansT c t = t := by unfold ansT; rw [ans_no h]; rfl
theorem ansG_no {g : Hp} {c : Col} {t : Thread} (h : askedB c t = false) : ansG g c t = g := by unfold ansG; rw [ans_no h]; rfl
theorem ansC_no {g : Hp} {c : Col} {t : Thread} (h : askedB c t = false) : ansC g c t = c := by unfold ansC; rw [ans_no h]; rfl

theorem ans_cases {c : Col} {t : Thread} (h : askedB c t = true) :
    (t.epoch ≠ c.epoch ∧ ansKind c t = 1 ∧ ansT c t = { t with epoch := c.epoch, stage := 1, root := 0 }) ∨
    (t.epoch = c.epoch ∧ c.phase = 2 ∧ t.stage < 2 ∧ ansKind c t = 2 ∧ ansT c t = { t with stage := 2 }) ∨
    (t.epoch = c.epoch ∧ c.phase ≠ 0 ∧ c.phase ≠ 1 ∧ c.phase ≠ 2 ∧ t.stage ≠ 3 ∧ ansKind c t = 3 ∧ ansT c t = if t.root = 3 then { t with root := 0, stage := 3 } else { t with root := t.root + 1 }) := by
  have ha := (asked_of h).2.2.2
  by_cases h1 : t.epoch = c.epoch
  · by_cases h2 : c.phase = 2
    · have hk : ansKind c t = 2 := by unfold ansKind; rw [if_pos h, if_neg (fun k => k h1), if_pos h2]
      refine .inr (.inl ⟨h1, h2, ?_, hk, by unfold ansT; rw [hk]; rfl⟩)
      unfold answeredB at ha
      rw [if_neg (by omega), if_neg (by omega), if_pos h2] at ha
      have := of_decide_eq_false ha
      omega
    · have hk : ansKind c t = 3 := by unfold ansKind; rw [if_pos h, if_neg (fun k => k h1), if_neg h2]
      have h0 : c.phase ≠ 0 := by
        intro e
        unfold answeredB at ha
        rw [if_pos e] at ha
        cases ha
      have h0' : c.phase ≠ 1 := by
        intro e
        unfold answeredB at ha
        rw [if_neg h0, if_pos e] at ha
        exact of_decide_eq_false ha h1
      refine .inr (.inr ⟨h1, h0, h0', h2, ?_, hk, by unfold ansT; rw [hk]; rfl⟩)
      intro e
      unfold answeredB at ha
      rw [if_neg h0, if_neg h0', if_neg h2] at ha
      exact of_decide_eq_false ha ⟨h1, e⟩
  · have hk : ansKind c t = 1 := by unfold ansKind; rw [if_pos h, if_pos h1]
    exact .inl ⟨h1, hk, by unfold ansT; rw [hk]; rfl⟩

/-- What of a thread an answer leaves. -/
structure SameT (t u : Thread) : Prop where
  live : u.live = t.live
  r0 : u.r0 = t.r0
  r1 : u.r1 = t.r1
  r2 : u.r2 = t.r2
  r3 : u.r3 = t.r3
  cache : u.cache = t.cache
  ops : u.ops = t.ops
  pc : u.pc = t.pc
  x : u.x = t.x
  y : u.y = t.y

theorem SameT.refl (t : Thread) : SameT t t := ⟨rfl, rfl, rfl, rfl, rfl, rfl, rfl, rfl, rfl, rfl⟩
theorem SameT.trans {t u v : Thread} (h : SameT t u) (k : SameT u v) : SameT t v :=
  ⟨k.live.trans h.live, k.r0.trans h.r0, k.r1.trans h.r1, k.r2.trans h.r2, k.r3.trans h.r3, k.cache.trans h.cache, k.ops.trans h.ops, k.pc.trans h.pc, k.x.trans h.x, k.y.trans h.y⟩
theorem SameT.reg {t u : Thread} (h : SameT t u) (r : Int) : u.reg r = t.reg r := by unfold Thread.reg; rw [h.r0, h.r1, h.r2, h.r3]
theorem SameT.few {t u : Thread} (h : SameT t u) : u.few = t.few := by unfold Thread.few; rw [h.ops, h.cache]

theorem ansT_same (c : Col) (t : Thread) : SameT t (ansT c t) := by
  by_cases h : askedB c t = true
  · rcases ans_cases h with ⟨_, _, e⟩ | ⟨_, _, _, _, e⟩ | ⟨_, _, _, _, _, _, e⟩
    · rw [e]; exact ⟨rfl, rfl, rfl, rfl, rfl, rfl, rfl, rfl, rfl, rfl⟩
    · rw [e]; exact ⟨rfl, rfl, rfl, rfl, rfl, rfl, rfl, rfl, rfl, rfl⟩
    · rw [e]
      by_cases h3 : t.root = 3
      · rw [if_pos h3]; exact ⟨rfl, rfl, rfl, rfl, rfl, rfl, rfl, rfl, rfl, rfl⟩
      · rw [if_neg h3]; exact ⟨rfl, rfl, rfl, rfl, rfl, rfl, rfl, rfl, rfl, rfl⟩
  · rw [ansT_no (by simpa using h)]
    exact .refl t

theorem ansT_may {c : Col} {t : Thread} (hm : t.mayT) : (ansT c t).mayT := by
  by_cases h : askedB c t = true
  · obtain ⟨m1, m2, m3, m4, m5, m6, m7, m8⟩ := hm
    rcases ans_cases h with ⟨_, _, e⟩ | ⟨_, _, _, _, e⟩ | ⟨_, _, _, _, _, _, e⟩
    · rw [e]; exact ⟨by show (0 : Int) ≤ 1; omega, by show (1 : Int) ≤ 3; omega, by show (0 : Int) ≤ 0; omega, by show (0 : Int) ≤ 3; omega, m5, m6, m7, m8⟩
    · rw [e]; exact ⟨by show (0 : Int) ≤ 2; omega, by show (2 : Int) ≤ 3; omega, m3, m4, m5, m6, m7, m8⟩
    · rw [e]
      by_cases h3 : t.root = 3
      · rw [if_pos h3]; exact ⟨by show (0 : Int) ≤ 3; omega, by show (3 : Int) ≤ 3; omega, by show (0 : Int) ≤ 0; omega, by show (0 : Int) ≤ 3; omega, m5, m6, m7, m8⟩
      · rw [if_neg h3]; exact ⟨m1, m2, by show 0 ≤ t.root + 1; omega, by show t.root + 1 ≤ 3; omega, m5, m6, m7, m8⟩
  · rw [ansT_no (by simpa using h)]
    exact hm

theorem ansC_same (g : Hp) (c : Col) (t : Thread) : SameC c (ansC g c t) := by
  unfold ansC
  by_cases h : ansKind c t = 3
  · rw [if_pos h]; exact shadeC_same g c _
  · rw [if_neg h]; exact ⟨rfl, rfl, rfl, rfl, rfl, rfl, rfl, rfl⟩

/-- What the collector's own list of asks is: its phase and epoch alone. -/
theorem answered_col {c d : Col} (h1 : d.phase = c.phase) (h2 : d.epoch = c.epoch) (t : Thread) : answeredB d t = answeredB c t := by unfold answeredB; rw [h1, h2]
theorem asked_col {c d : Col} (h1 : d.phase = c.phase) (h2 : d.epoch = c.epoch) (t : Thread) : askedB d t = askedB c t := by unfold askedB; rw [answered_col h1 h2]
theorem kind_col {c d : Col} (h1 : d.phase = c.phase) (h2 : d.epoch = c.epoch) (t : Thread) : ansKind d t = ansKind c t := by unfold ansKind; rw [asked_col h1 h2, h1, h2]
theorem ansT_col {c d : Col} (h1 : d.phase = c.phase) (h2 : d.epoch = c.epoch) (t : Thread) : ansT d t = ansT c t := by unfold ansT; rw [kind_col h1 h2, h2]

/-- So many answers are to come. -/
def rem (c : Col) (t : Thread) : Nat := if askedB c t = true then (if t.epoch ≠ c.epoch then (if c.phase = 1 then 1 else if c.phase = 2 then 2 else 5) else if c.phase = 2 then 1 else (4 - t.root).toNat) else 0

theorem rem_le (c : Col) (t : Thread) (hm : t.mayT) : rem c t ≤ 5 := by
  unfold rem
  obtain ⟨_, _, m3, m4, _⟩ := hm
  split
  · split
    · split
      · omega
      · split <;> omega
    · split <;> omega
  · omega

theorem rem_step {c : Col} {t : Thread} (h : askedB c t = true) : rem c (ansT c t) < rem c t := by
  obtain ⟨hl, hm, hp, ha⟩ := asked_of h
  have hm' := ansT_may (c := c) hm
  have hs := ansT_same c t
  obtain ⟨_, _, m3, m4, _⟩ := hm
  rcases ans_cases h with ⟨h1, _, e⟩ | ⟨h1, h2, _, _, e⟩ | ⟨h1, h0, h0', h2, _, _, e⟩
  · have hr : rem c t = (if c.phase = 1 then 1 else if c.phase = 2 then 2 else 5) := by unfold rem; rw [if_pos h, if_pos h1]
    rw [hr]
    by_cases p1 : c.phase = 1
    · have : askedB c (ansT c t) = false := asked_not (by unfold answeredB; rw [if_neg (by omega), if_pos p1, e]; simp)
      unfold rem
      rw [if_neg (by rw [this]; decide), if_pos p1]
      omega
    · rw [if_neg p1]
      unfold rem
      have hep : (ansT c t).epoch = c.epoch := by rw [e]
      have hro : (ansT c t).root = 0 := by rw [e]
      by_cases p2 : c.phase = 2
      · rw [if_pos p2]
        by_cases hq : askedB c (ansT c t) = true
        · rw [if_pos hq, if_neg (fun k => k hep), if_pos p2]; omega
        · rw [if_neg hq]; omega
      · rw [if_neg p2]
        by_cases hq : askedB c (ansT c t) = true
        · rw [if_pos hq, if_neg (fun k => k hep), if_neg p2, hro]; omega
        · rw [if_neg hq]; omega
  · have hr : rem c t = 1 := by unfold rem; rw [if_pos h, if_neg (fun k => k h1), if_pos h2]
    have : askedB c (ansT c t) = false := asked_not (by unfold answeredB; rw [if_neg (by omega), if_neg (by omega), if_pos h2, e]; simp [h1])
    rw [hr]
    unfold rem
    rw [if_neg (by rw [this]; decide)]
    omega
  · have hr : rem c t = (4 - t.root).toNat := by unfold rem; rw [if_pos h, if_neg (fun k => k h1), if_neg h2]
    rw [hr]
    by_cases h3 : t.root = 3
    · rw [if_pos h3] at e
      have : askedB c (ansT c t) = false := asked_not (by unfold answeredB; rw [if_neg h0, if_neg h0', if_neg h2, e]; simp [h1])
      unfold rem
      rw [if_neg (by rw [this]; decide)]
      omega
    · rw [if_neg h3] at e
      have hep : (ansT c t).epoch = c.epoch := by rw [e]; exact h1
      have hro : (ansT c t).root = t.root + 1 := by rw [e]
      unfold rem
      by_cases hq : askedB c (ansT c t) = true
      · rw [if_pos hq, if_neg (fun k => k hep), if_neg h2, hro]; omega
      · rw [if_neg hq]; omega

theorem rem_zero {c : Col} {t : Thread} (hm : t.mayT) (h : rem c t = 0) : askedB c t = false := by
  cases ha : askedB c t with
  | false => rfl
  | true =>
    exfalso
    unfold rem at h
    obtain ⟨_, _, m3, m4, _⟩ := hm
    rw [if_pos ha] at h
    split at h
    · split at h
      · omega
      · split at h <;> omega
    · split at h <;> omega

/-- A thread that has answered n times, at a heap and a collector. -/
structure Ans (g : Hp) (c : Col) (t : Thread) (n : Nat) (k : Hp) (d : Col) (u : Thread) : Prop where
  few : fewH k = fewH g
  len : k.w.length = g.w.length
  work : d.work.length ≤ c.work.length + n
  col : SameC c d
  thr : SameT t u
  may : t.mayT → u.mayT
  white : ∀ a, atK k c a = 1 → atK g c a = 1
  word : ∀ i : Nat, k.w.getD i default ≠ g.w.getD i default → atK g c (16 + (i : Int)) = 1

theorem Ans.start (g : Hp) (c : Col) (t : Thread) : Ans g c t 0 g c t :=
  ⟨rfl, rfl, Nat.le_refl _, ⟨rfl, rfl, rfl, rfl, rfl, rfl, rfl, rfl⟩, .refl t, id, fun _ h => h, fun _ h => absurd rfl h⟩

theorem SameC.trans {c d e : Col} (h : SameC c d) (k : SameC d e) : SameC c e :=
  ⟨k.phase.trans h.phase, k.epoch.trans h.epoch, k.major.trans h.major, k.at_.trans h.at_, k.field_.trans h.field_, k.seek.trans h.seek, k.card.trans h.card, k.met.trans h.met⟩
theorem SameC.at {c d : Col} (h : SameC c d) (g : Hp) (a : Int) : atK g d a = atK g c a := atK_col h.epoch h.major g a

theorem shadeC_len (g : Hp) (c : Col) (a : Int) : (shadeC g c a).work.length ≤ c.work.length + 1 := by
  by_cases h : atK g c a = 1
  · rw [shadeC_yes h]
    split
    · show (c.work ++ [a]).length ≤ _
      rw [List.length_append]
      exact Nat.le_refl _
    · exact Nat.le_succ _
  · rw [shadeC_no h]
    exact Nat.le_succ _

theorem Ans.step {g : Hp} {c : Col} {t : Thread} {n : Nat} {k : Hp} {d : Col} {u : Thread} (h : Ans g c t n k d u) : Ans g c t (n + 1) (ansG k d u) (ansC k d u) (ansT d u) := by
  have hT := ansT_same d u
  have hC := ansC_same k d u
  by_cases hk : ansKind d u = 3
  · have eG : ansG k d u = shadeG k d (u.reg u.root) := if_pos hk
    have eC : ansC k d u = shadeC k d (u.reg u.root) := if_pos hk
    obtain ⟨r1, r2, r3, r4⟩ := shadeG_rest k d (u.reg u.root)
    have hlen := shadeC_len k d (u.reg u.root)
    refine ⟨?_, ?_, ?_, h.col.trans hC, h.thr.trans hT, fun hm => ansT_may (h.may hm), fun a ha => ?_, fun i hi => ?_⟩
    · rw [eG, shadeG_few, h.few]
    · rw [eG, r4, h.len]
    · rw [eC]; have := h.work; omega
    · apply h.white
      rw [eG, ← h.col.at, atK_shade, h.col.at, h.col.at] at ha
      by_cases e : a = u.reg u.root ∧ atK k c (u.reg u.root) = 1
      · rw [if_pos e] at ha; exact absurd ha (by decide)
      · rw [if_neg e] at ha; exact ha
    · by_cases e : (shadeG k d (u.reg u.root)).w.getD i default = k.w.getD i default
      · rw [eG, e] at hi
        exact h.word i hi
      · obtain ⟨e1, e2⟩ := shadeG_word k d (u.reg u.root) i e
        rw [h.col.at] at e2
        rw [show 16 + (i : Int) = u.reg u.root by omega]
        exact h.white _ e2
  · have eG : ansG k d u = k := if_neg hk
    have eC : ansC k d u = d := if_neg hk
    rw [eG, eC]
    refine ⟨h.few, h.len, by have := h.work; omega, h.col, h.thr.trans hT, fun hm => ansT_may (h.may hm), h.white, h.word⟩

/-! In Roots, and behind. -/
theorem shade_nonwhite (g : Hp) (c : Col) (a u : Int) (h : atK g c u ≠ 1) : atK (shadeG g c a) c u ≠ 1 := by
  rw [atK_shade]
  by_cases e : u = a ∧ atK g c a = 1
  · rw [if_pos e]; decide
  · rw [if_neg e]; exact h
theorem shade_self (g : Hp) (c : Col) (a : Int) : atK (shadeG g c a) c a ≠ 1 := by
  rw [atK_shade]
  by_cases e : atK g c a = 1
  · rw [if_pos ⟨rfl, e⟩]; decide
  · rw [if_neg (fun k => e k.2)]; exact e

inductive Roots (c : Col) (n : Nat) (k : Hp) (u : Thread) : Prop
  | new (h : n = 0) (he : u.epoch ≠ c.epoch) (ha : askedB c u = true)
  | at_ (he : u.epoch = c.epoch) (ha : askedB c u = true) (hn : (n : Int) ≤ u.root + 1) (hw : ∀ r, 0 ≤ r → r < u.root → atK k c (u.reg r) ≠ 1)
  | done (ha : askedB c u = false) (hs : u.stage = 3) (hr : u.root = 0) (hw : ∀ r, 0 ≤ r → r ≤ 3 → atK k c (u.reg r) ≠ 1)

theorem Roots.start {c : Col} {k : Hp} {u : Thread} (ha : askedB c u = true) (h0 : u.root = 0) : Roots c 0 k u := by
  by_cases he : u.epoch = c.epoch
  · exact .at_ he ha (by omega) (fun r h1 h2 => by omega)
  · exact .new rfl he ha

theorem Roots.step {c d : Col} {n : Nat} {k : Hp} {u : Thread} (hc : SameC c d) (hp : 3 ≤ c.phase) (h : Roots c n k u) : Roots c (n + 1) (ansG k d u) (ansT d u) := by
  have hT : ansT d u = ansT c u := ansT_col hc.phase hc.epoch u
  have hK : ansKind d u = ansKind c u := kind_col hc.phase hc.epoch u
  have hans : ∀ v : Thread, v.epoch = c.epoch → v.stage ≠ 3 → answeredB c v = false := fun v h1 h2 => by
    unfold answeredB
    rw [if_neg (by omega), if_neg (by omega), if_neg (by omega)]
    exact decide_eq_false fun x => h2 x.2
  rw [hT]
  cases h with
  | new h he ha =>
    obtain ⟨hl, hm, hpc, _⟩ := asked_of ha
    rcases ans_cases ha with ⟨_, hk, e⟩ | ⟨h1, _⟩ | ⟨h1, _⟩
    · have hep : (ansT c u).epoch = c.epoch := by rw [e]
      have hro : (ansT c u).root = 0 := by rw [e]
      have hst : (ansT c u).stage = 1 := by rw [e]
      have hs := ansT_same c u
      exact .at_ hep (asked_mk (hs.live.trans hl) (ansT_may hm) (hs.pc.trans hpc) (hans _ hep (by omega))) (by omega) (fun r h1 h2 => by omega)
    · exact absurd h1 he
    · exact absurd h1 he
  | at_ he ha hn hw =>
    obtain ⟨hl, hm, hpc, _⟩ := asked_of ha
    rcases ans_cases ha with ⟨h1, _⟩ | ⟨_, h2, _⟩ | ⟨_, _, _, _, hst, hk, e⟩
    · exact absurd he h1
    · omega
    · have hs := ansT_same c u
      have hG : ansG k d u = shadeG k d (u.reg u.root) := by unfold ansG; rw [hK, if_pos hk]
      have hold : ∀ r, 0 ≤ r → r ≤ u.root → atK (shadeG k d (u.reg u.root)) c (u.reg r) ≠ 1 := fun r h1 h2 => by
        by_cases e : r = u.root
        · subst e
          rw [← hc.at]
          exact shade_self k d _
        · have := hw r h1 (by omega)
          rw [← hc.at] at this ⊢
          exact shade_nonwhite k d _ _ this
      rw [hG]
      by_cases h3 : u.root = 3
      · rw [if_pos h3] at e
        have hst' : (ansT c u).stage = 3 := by rw [e]
        refine .done (asked_not ?_) hst' (by rw [e]) fun r h1 h2 => ?_
        · unfold answeredB
          rw [if_neg (by omega), if_neg (by omega), if_neg (by omega), hst', show (ansT c u).epoch = c.epoch by rw [e]; exact he]
          simp
        · rw [hs.reg]
          exact hold r h1 (by omega)
      · rw [if_neg h3] at e
        have hro : (ansT c u).root = u.root + 1 := by rw [e]
        have hep : (ansT c u).epoch = c.epoch := by rw [e]; exact he
        refine .at_ hep (asked_mk (hs.live.trans hl) (ansT_may hm) (hs.pc.trans hpc) (hans _ hep (by rw [e]; exact hst))) (by rw [hro]; omega) fun r h1 h2 => ?_
        rw [hs.reg]
        exact hold r h1 (by omega)
  | done ha hs hr hw =>
    have hd : askedB d u = false := by rw [asked_col hc.phase hc.epoch]; exact ha
    rw [ansT_no ha, ansG_no hd]
    exact .done ha hs hr hw

theorem Roots.last {c : Col} {k : Hp} {u : Thread} (h : Roots c 6 k u) : u.stage = 3 ∧ u.root = 0 ∧ ∀ r, 0 ≤ r → r ≤ 3 → atK k c (u.reg r) ≠ 1 := by
  cases h with
  | new h _ _ => omega
  | at_ he ha hn hw =>
    have := (asked_of ha).2.1
    obtain ⟨_, _, _, h4, _⟩ := this
    omega
  | done ha hs hr hw => exact ⟨hs, hr, hw⟩

/-- A thread that begins. -/
def beginT (c : Col) (t : Thread) (l : List Thread) : Thread := match l.find? (·.live) with
  | some x => { t with live := true, r0 := x.r0, r1 := 0, r2 := 0, r3 := 0, epoch := x.epoch, stage := x.stage, root := 0, pc := 0, x := 0, y := 0 }
  | none => { t with live := true, r0 := 0, r1 := 0, r2 := 0, r3 := 0, epoch := if c.phase = 0 then 0 else c.epoch, stage := wantsH c.phase, root := 0, pc := 0, x := 0, y := 0 }

def allB (c : Col) (l : List Thread) : Bool := l.all fun t => !t.live || answeredB c t
end Go.Abs
