/- Going through all dirty cards, in plain Lean. -/
import Derived.Test.YtbbakbkmjhhbpaaGreatDoorWScanK
import Derived.Test.YtbbakbkmjhhbpaaGreatDoorWCardsAll
set_option linter.all false
set_option linter.unusedVariables false
set_option linter.unusedSimpArgs false
namespace Go.Abs

theorem mem_onH {g : Hp} {n u : Int} (h0 : 0 ≤ n) (hc : n < (g.cards.length : Int)) : u ∈ onH g n ↔ headE g u = 0 ∧ 16 + n * 8 ≤ u ∧ u < 16 + n * 8 + 8 := by
  unfold onH
  rw [decide_eq_true ⟨h0, hc⟩]
  show u ∈ onTo g n 8 ↔ _
  rw [mem_onTo, mem_usedH]
  rfl

theorem nextO_some {g : Hp} {n a b : Int} (h : nextO g n a = some b) : b ∈ onH g n ∧ a < b ∧ (headH g b).old = true ∧ ∀ u ∈ onH g n, a < u → (headH g u).old = true → b ≤ u := by
  unfold nextO at h
  obtain ⟨h1, xs, bs, e, h2⟩ := List.find?_eq_some_iff_append.1 h
  rw [Bool.and_eq_true, decide_eq_true_eq] at h1
  have hs := onH_sorted g n
  rw [e] at hs ⊢
  refine ⟨by simp, h1.1, h1.2, fun u hu ha ho => ?_⟩
  rcases List.mem_append.1 hu with hu | hu
  · have := h2 u hu
    rw [decide_eq_true ha, ho] at this
    cases this
  · rcases List.mem_cons.1 hu with hu | hu
    · omega
    · have h3 := (List.pairwise_append.1 hs).2.1
      rw [List.pairwise_cons] at h3
      exact Int.le_of_lt (h3.1 u hu)

theorem nextO_none {g : Hp} {n a : Int} (h : nextO g n a = none) : ∀ u ∈ onH g n, a < u → (headH g u).old = true → False := by
  intro u hu ha ho
  unfold nextO at h
  have := List.find?_eq_none.1 h u hu
  rw [decide_eq_true ha, ho] at this
  exact this rfl

/-- What any number of steps leaves. -/
structure SK (g k : Hp) (c d : Col) : Prop where
  pages : k.pages = g.pages
  free : k.free = g.free
  wlen : k.w.length = g.w.length
  clen : k.cards.length = g.cards.length
  may : ∀ cs, mayH k cs = mayH g cs
  used : usedH k = usedH g
  headE : ∀ u, Abs.headE k u = Abs.headE g u
  old : ∀ u, (headH k u).old = (headH g u).old
  n : ∀ u, (headH k u).n = (headH g u).n
  word : ∀ i : Nat, k.w.getD i default ≠ g.w.getD i default → 16 + (i : Int) ∈ usedH g
  rises : Rises c g k
  epoch : d.epoch = c.epoch
  major : d.major = c.major
  work : d.work.length ≤ 100

theorem SK.refl (g : Hp) (c : Col) (h : c.work.length ≤ 100) : SK g g c c := ⟨rfl, rfl, rfl, rfl, fun _ => rfl, rfl, fun _ => rfl, fun _ => rfl, fun _ => rfl, fun _ h => absurd rfl h, .refl c g, rfl, rfl, h⟩
theorem SK.at {g k : Hp} {c d : Col} (h : SK g k c d) (m : Hp) (u : Int) : atK m d u = atK m c u := atK_col h.epoch h.major m u
theorem SK.step {g k m : Hp} {c d e : Col} (h : SK g k c d) (h' : SKeep k m d e) : SK g m c e := by
  refine ⟨h'.pages.trans h.pages, h'.free.trans h.free, h'.wlen.trans h.wlen, h'.clen.trans h.clen, fun cs => (h'.may cs).trans (h.may cs), h'.used.trans h.used, fun u => (h'.headE u).trans (h.headE u), fun u => (h'.head u).2.1.trans (h.old u), fun u => (h'.head u).2.2.1.trans (h.n u), fun i hi => ?_, ?_, h'.epoch.trans h.epoch, h'.major.trans h.major, h'.work h.work⟩
  · by_cases e : k.w.getD i default = g.w.getD i default
    · have h1 := h'.word i (by rw [e]; exact hi)
      refine mem_usedH.2 ?_
      rw [← h.headE]
      exact atK_ne (c := d) (by omega)
    · exact h.word i e
  · have hr := h'.rises
    exact h.rises.trans ⟨fun u => by have := hr.le u; rw [h.at, h.at] at this; exact this, fun u e => by have := hr.out u (by rw [h.at]; exact e); rw [h.at] at this; exact this⟩

theorem SK.light {g k : Hp} {c d : Col} (h : SK g k c d) (hl : g.light) : k.light := by unfold Hp.light; rw [h.free]; exact hl
theorem SK.small {g k : Hp} {c d : Col} (h : SK g k c d) (hs : g.small) : k.small := by unfold Hp.small; rw [h.free, h.pages, h.clen, h.wlen]; exact hs

theorem SK.field {g k : Hp} {c d : Col} (h : SK g k c d) {u f : Int} (h0 : Abs.headE g u = 0) (h1 : 1 ≤ f) (h2 : f ≤ (headH g u).n) : wordAt k (u + f) = wordAt g (u + f) := by
  obtain ⟨had, hnot⟩ := field_adr h0 h1 h2
  have ha1 := had.1
  unfold wordAt at0
  by_cases e : k.w.getD (u + f - 16).toNat 0 = g.w.getD (u + f - 16).toNat 0
  · exact e
  · exfalso
    have := h.word _ e
    rw [show 16 + ((u + f - 16).toNat : Int) = u + f by omega] at this
    exact hnot this
theorem SK.young {g k : Hp} {c d : Col} (h : SK g k c d) (u : Int) : youngH k u = youngH g u := by unfold youngH; rw [h.headE, h.old]
theorem SK.next {g k : Hp} {c d : Col} (h : SK g k c d) (n a : Int) : nextO k n a = nextO g n a := by
  unfold nextO onH onTo
  rw [h.clen, h.used]
  congr 1
  funext b
  rw [h.old]

/-- An old object, and its card. -/
def isO (g : Hp) (u : Int) : Prop := headE g u = 0 ∧ (headH g u).old = true
def crd (u : Int) : Int := (u - 16) / 8
/-- Has it a field that tells of what is not old? -/
def hasY (g : Hp) (u : Int) : Prop := ∃ f : Int, 1 ≤ f ∧ f ≤ (headH g u).n ∧ youngH g (wordAt g (u + f)) = true

theorem o_card {g : Hp} {u : Int} (h : isO g u) : 0 ≤ crd u ∧ crd u < (g.cards.length : Int) ∧ 16 + 8 * crd u ≤ u ∧ u < 16 + 8 * crd u + 8 := by
  obtain ⟨_, _, _, h1, h2⟩ := head_fits h.1
  obtain ⟨_, _, h3, h4, _, h64⟩ := shapedH_of (mayH_shaped (headE_of h.1).1)
  unfold crd
  omega
/-- The next object begins behind the fields of the one before. -/
theorem o_next {g : Hp} {u v : Int} (hu : headE g u = 0) (hv : headE g v = 0) (h : u < v) : u + (headH g u).n + 1 ≤ v := by
  obtain ⟨_, _, hn, _⟩ := head_fits hu
  obtain ⟨_, hr, _⟩ := headE_of hu
  obtain ⟨_, hrv, _⟩ := headE_of hv
  apply Classical.byContradiction
  intro hlt
  exact hrv (inside hr h (by omega))
theorem o_end {g : Hp} {u : Int} (hu : headE g u = 0) : u + (headH g u).n + 1 ≤ 16 + (g.w.length : Int) := by
  obtain ⟨_, _, hn, _⟩ := head_fits hu
  obtain ⟨hm, hr, _⟩ := headE_of hu
  have := room_end hr
  obtain ⟨_, _, h3, _⟩ := shapedH_of (mayH_shaped hm)
  omega

/-- What is known of the run while the phase is Scan. p: how far the words have been gone through. -/
structure ScAt (g : Hp) (c : Col) (i : Nat) (p : Int) (k : Hp) (d : Col) : Prop where
  sk : SK g k c d
  phase : d.phase = 4
  c0 : 0 ≤ d.card
  c1 : d.card ≤ (g.cards.length : Int)
  hi : ∀ j : Nat, (d.card < (j : Int) ∨ ((j : Int) = d.card ∧ d.seek = 0)) → k.cards.getD j false = g.cards.getD j false
  lo : ∀ u, isO g u → crd u < d.card → g.cards.getD (crd u).toNat false = true → hasY g u → k.cards.getD (crd u).toNat false = true
  shaded : ∀ u, isO g u → crd u < d.card → g.cards.getD (crd u).toNat false = true → ∀ f : Int, 1 ≤ f → f ≤ (headH g u).n → youngH g (wordAt g (u + f)) = true → atK k c (wordAt g (u + f)) ≠ 1
  cur : d.seek ≠ 0 → d.card < (g.cards.length : Int) ∧ g.cards.getD d.card.toNat false = true
  here : d.seek ≠ 0 → ∀ u, isO g u → crd u = d.card → (u < d.at_ ∨ (d.at_ = 0 ∧ u ≤ d.seek)) → ∀ f : Int, 1 ≤ f → f ≤ (headH g u).n → youngH g (wordAt g (u + f)) = true → atK k c (wordAt g (u + f)) ≠ 1 ∧ d.met = true
  at_ : d.seek ≠ 0 → d.at_ ≠ 0 → d.at_ = d.seek ∧ isO g d.at_ ∧ crd d.at_ = d.card ∧ 0 ≤ d.field_ ∧ d.field_ < (headH g d.at_).n
  flds : d.seek ≠ 0 → d.at_ ≠ 0 → ∀ f : Int, 1 ≤ f → f ≤ d.field_ → youngH g (wordAt g (d.at_ + f)) = true → atK k c (wordAt g (d.at_ + f)) ≠ 1 ∧ d.met = true
  only : ∀ u, atK k c u ≠ atK g c u → atK g c u = 1 ∧ atK k c u = 2 ∧ ∃ x f, isO g x ∧ g.cards.getD (crd x).toNat false = true ∧ 1 ≤ f ∧ f ≤ (headH g x).n ∧ u = wordAt g (x + f)
  s0 : 0 ≤ d.seek
  s8 : d.seek ≠ 0 → d.seek < 16 + 8 * d.card + 8
  p0 : 16 ≤ p
  p1 : p ≤ 16 + (g.w.length : Int)
  pz : d.seek = 0 → ∀ u, isO g u → d.card ≤ crd u → p ≤ u
  pa : d.seek ≠ 0 → d.at_ ≠ 0 → p = d.at_ + 1 + d.field_
  pn : d.seek ≠ 0 → d.at_ = 0 → ∀ u, isO g u → d.seek < u → d.card ≤ crd u → p ≤ u
  pot : (i : Int) ≤ p - 16 + 2 * d.card + (if d.seek ≠ 0 then 1 else 0)

theorem ScAt.start {g : Hp} {c : Col} (hp : c.phase = 4) (hc : c.card = 0) (hs : c.seek = 0) (hw : c.work.length ≤ 100) : ScAt g c 0 16 g c := by
  refine ⟨.refl g c hw, hp, by omega, by omega, fun j _ => rfl, fun u hu h => ?_, fun u hu h => ?_, fun h => absurd hs h, fun h => absurd hs h, fun h => absurd hs h, fun h => absurd hs h, fun u h => absurd rfl h, by omega, fun h => absurd hs h, by omega, by omega, fun _ u hu _ => ?_, fun h => absurd hs h, fun h => absurd hs h, ?_⟩
  · have := (o_card hu).1; omega
  · have := (o_card hu).1; omega
  · have := o_card hu; omega
  · rw [if_neg (fun k => k hs)]; omega

theorem set_other {l : List Bool} {n : Int} {j : Nat} {b : Bool} (h : (j : Int) ≠ n) (h0 : 0 ≤ n) : (l.set n.toNat b).getD j false = l.getD j false := by
  rw [List.getD_eq_getElem?_getD, List.getElem?_set_ne (by omega), List.getD_eq_getElem?_getD]
theorem set_here {l : List Bool} {n : Int} {b : Bool} (h0 : 0 ≤ n) (h : n < (l.length : Int)) : (l.set n.toNat b).getD n.toNat false = b := by
  rw [List.getD_eq_getElem?_getD, List.getElem?_set_self (by omega)]
  rfl

/-- What is known of a field that is gone through. -/
theorem met_facts {g k : Hp} {c d : Col} (h : SK g k c d) (v : Int) :
    (youngH g v = true → atK (metS k d v).1 c v ≠ 1 ∧ (metS k d v).2.met = true) ∧ (∀ u, atK k c u ≠ 1 → atK (metS k d v).1 c u ≠ 1) ∧ (d.met = true → (metS k d v).2.met = true) ∧
    (∀ u, atK (metS k d v).1 c u ≠ atK k c u → u = v ∧ youngH g v = true ∧ atK k c u = 1 ∧ atK (metS k d v).1 c u = 2) ∧ (metS k d v).1.cards = k.cards := by
  have hr := met_rises k d v
  have hc := (met_marks k d v).cards
  have nw : ∀ u, atK k c u ≠ 1 → atK (metS k d v).1 c u ≠ 1 := fun u hu => by
    have := hr.nonwhite (u := u) (by rw [h.at]; exact hu)
    rw [h.at] at this
    exact this
  rcases met_cases k d v with ⟨hy, e⟩ | ⟨hy, e⟩
  · rw [h.young] at hy
    have hsh : ∀ u, atK (metS k d v).1 c u = if u = v ∧ atK k c v = 1 then 2 else atK k c u := fun u => by
      have q := atK_shade k d v u
      rw [h.at, h.at, h.at] at q
      rw [e]
      exact q
    refine ⟨fun _ => ⟨?_, by rw [e]⟩, nw, fun _ => by rw [e], fun u hu => ?_, hc⟩
    · rw [hsh]
      by_cases hk : atK k c v = 1
      · rw [if_pos ⟨rfl, hk⟩]; decide
      · rw [if_neg (fun q => hk q.2)]; exact hk
    · rw [hsh] at hu ⊢
      by_cases hk : u = v ∧ atK k c v = 1
      · rw [if_pos hk]; exact ⟨hk.1, hy, by rw [hk.1]; exact hk.2, rfl⟩
      · rw [if_neg hk] at hu; exact absurd rfl hu
  · rw [h.young] at hy
    refine ⟨fun q => by (rw [hy] at q; cases q), nw, fun q => by rw [e]; exact q, fun u hu => ?_, hc⟩
    rw [e] at hu
    exact absurd rfl hu

/-- The word that a step goes through. -/
theorem scan_word {g k : Hp} {c d : Col} (h : SK g k c d) {u f : Int} (hE : Abs.headE g u = 0) (h0 : 0 ≤ f) (h1 : f + 1 ≤ (headH g u).n) : wordOf k (u + 1 + f) = wordAt g (u + (f + 1)) := by
  rw [show u + 1 + f = u + (f + 1) by omega, wordOf_field (by rw [h.headE]; exact hE) (by omega) (by rw [h.n]; exact h1), h.field hE (by omega) h1]

theorem ScAt.step {g k : Hp} {c d : Col} {i : Nat} {p : Int} (h : ScAt g c i p k d) (hm : mayH g [] = true) :
    (∃ p', ScAt g c (i + 1) p' (scanS k d).1 (scanS k d).2) ∨ ((g.cards.length : Int) ≤ d.card ∧ (scanS k d).1 = k ∧ (scanS k d).2 = { d with phase := 5, seek := 0, card := 0, met := false, at_ := 0, field_ := 0 }) := by
  have hs := scan_step k d
  have hsk := h.sk.step hs.keep
  have hmk : mayH k [] = true := by rw [h.sk.may]; exact hm
  generalize (scanS k d).1 = k' at *
  generalize (scanS k d).2 = d' at *
  cases hs
  case idle hx => exact absurd ⟨hmk, h.phase, h.c0⟩ hx
  case fin hp hc => exact .inr ⟨by rw [← h.sk.clen]; exact hc, rfl, rfl⟩
  case clean h0 hc hs hd _ hp =>
    left
    have hcg : d.card < (g.cards.length : Int) := by rw [← h.sk.clen]; assumption
    have hg : g.cards.getD d.card.toNat false = true := by
      rw [← h.hi d.card.toNat (.inr ⟨by have := h.c0; omega, by assumption⟩)]
      assumption
    have hs0 : d.seek = 0 := by assumption
    refine ⟨p, hsk, h.phase, h.c0, h.c1, fun j hj => ?_, fun u hu hcu hgu hy => ?_, fun u hu hcu hgu f f1 f2 hy => ?_, fun _ => ⟨hcg, hg⟩, fun _ u hu hcu hlt => ?_, fun _ ha => absurd rfl ha, fun _ ha => absurd rfl ha, fun u hu => ?_, by show (0 : Int) ≤ 1; omega, fun _ => ?_, h.p0, h.p1, fun hz => absurd hz (by show ¬ (1 : Int) = 0; decide), fun _ ha => absurd rfl ha, fun _ _ u hu _ hcu => h.pz hs0 u hu hcu, ?_⟩
    · rcases hj with hj | ⟨_, hj⟩
      · show (k.cards.set d.card.toNat false).getD j false = _
        have hj : d.card < (j : Int) := hj
        rw [set_other (by omega) h.c0]
        exact h.hi j (.inl hj)
      · exact absurd hj (by show ¬ (1 : Int) = 0; decide)
    · have hcu : crd u < d.card := hcu
      have := o_card hu
      show (k.cards.set d.card.toNat false).getD (crd u).toNat false = _
      rw [set_other (by omega) h.c0]
      exact h.lo u hu hcu hgu hy
    · rw [atK_cset]; exact h.shaded u hu hcu hgu f f1 f2 hy
    · have hb := (o_card hu)
      rcases hlt with hlt | ⟨_, hlt⟩
      · have hlt : u < 0 := hlt; omega
      · have hlt : u ≤ 1 := hlt; omega
    · rw [atK_cset] at hu ⊢; exact h.only u hu
    · show (1 : Int) < 16 + 8 * d.card + 8
      have := h.c0; omega
    · have hpot := h.pot
      rw [if_neg (fun q => q hs0)] at hpot
      rw [if_pos (show (1 : Int) ≠ 0 by decide)]
      show ((i + 1 : Nat) : Int) ≤ p - 16 + 2 * d.card + 1
      omega
  case skip h0 hc hs hd _ hp =>
    left
    have hcg : d.card < (g.cards.length : Int) := by rw [← h.sk.clen]; assumption
    have hs0 : d.seek = 0 := by assumption
    have hg : g.cards.getD d.card.toNat false = false := by
      rw [← h.hi d.card.toNat (.inr ⟨by have := h.c0; omega, hs0⟩)]
      assumption
    have less : ∀ u, isO g u → crd u < d.card + 1 → g.cards.getD (crd u).toNat false = true → crd u < d.card := fun u hu h1 h2 => by
      by_cases e : crd u = d.card
      · rw [e, hg] at h2; cases h2
      · omega
    refine ⟨p, hsk, h.phase, by show 0 ≤ d.card + 1; have := h.c0; omega, by show d.card + 1 ≤ _; omega, fun j hj => ?_, fun u hu hcu hgu hy => h.lo u hu (less u hu hcu hgu) hgu hy, fun u hu hcu hgu => h.shaded u hu (less u hu hcu hgu) hgu, fun q => absurd hs0 q, fun q => absurd hs0 q, fun q => absurd hs0 q, fun q => absurd hs0 q, h.only, h.s0, fun q => absurd hs0 q, h.p0, h.p1, fun _ u hu hcu => h.pz hs0 u hu (by have hcu : d.card + 1 ≤ crd u := hcu; omega), fun q => absurd hs0 q, fun q => absurd hs0 q, ?_⟩
    · refine h.hi j (.inl ?_)
      rcases hj with hj | ⟨hj, _⟩
      · have hj : d.card + 1 < (j : Int) := hj; omega
      · have hj : (j : Int) = d.card + 1 := hj; omega
    · have hpot := h.pot
      rw [if_neg (fun q => q hs0)] at hpot
      rw [if_neg (fun q => q hs0)]
      show ((i + 1 : Nat) : Int) ≤ p - 16 + 2 * (d.card + 1) + 0
      omega
  case lost h0 hc hs0 ha hf _ hp =>
    exfalso
    obtain ⟨_, hO, _, z1, z2⟩ := h.at_ (by assumption) (by assumption)
    have hf : Abs.headE k d.at_ ≠ 0 ∨ d.field_ < 0 ∨ (headH k d.at_).n ≤ d.field_ := by assumption
    rw [h.sk.headE, h.sk.n] at hf
    rcases hf with hf | hf | hf
    · exact hf hO.1
    · omega
    · omega
  case last v hv =>
    left
    have hsn : d.seek ≠ 0 := by assumption
    have han : d.at_ ≠ 0 := by assumption
    have hln : d.field_ + 1 = (headH k d.at_).n := by assumption
    rw [h.sk.n] at hln
    obtain ⟨a1, a2, a3, a4, a5⟩ := h.at_ hsn han
    obtain ⟨hcg, hgd⟩ := h.cur hsn
    have hvg : v = wordAt g (d.at_ + (d.field_ + 1)) := by rw [hv]; exact scan_word h.sk a2.1 a4 (by omega)
    obtain ⟨m1, m2, m3, m4, m5⟩ := met_facts h.sk v
    obtain ⟨c1, c2, c3, c4, c5, c6, c7⟩ := met_col k d v
    have hpa := h.pa hsn han
    refine ⟨p + 1, hsk, c1.trans h.phase, by show 0 ≤ (metS k d v).2.card; rw [c7]; exact h.c0, by show (metS k d v).2.card ≤ _; rw [c7]; exact h.c1, fun j hj => ?_, fun u hu hcu hgu hy => ?_, fun u hu hcu hgu f f1 f2 hy => ?_, fun _ => ?_, fun _ u hu hcu hlt f f1 f2 hy => ?_, fun _ q => absurd rfl q, fun _ q => absurd rfl q, fun u hu => ?_, by show 0 ≤ (metS k d v).2.seek; rw [c6]; exact h.s0, fun _ => ?_, by have := h.p0; omega, ?_, fun q => ?_, fun _ q => absurd rfl q, fun _ _ u hu hlt _ => ?_, ?_⟩
    · have hj : (metS k d v).2.card < (j : Int) ∨ ((j : Int) = (metS k d v).2.card ∧ (metS k d v).2.seek = 0) := hj
      rw [c7, c6] at hj
      rw [m5]; exact h.hi j hj
    · have hcu : crd u < (metS k d v).2.card := hcu
      rw [c7] at hcu
      rw [m5]; exact h.lo u hu hcu hgu hy
    · have hcu : crd u < (metS k d v).2.card := hcu
      rw [c7] at hcu
      exact m2 _ (h.shaded u hu hcu hgu f f1 f2 hy)
    · show (metS k d v).2.card < _ ∧ g.cards.getD (metS k d v).2.card.toNat false = true
      rw [c7]; exact ⟨hcg, hgd⟩
    · have hcu : crd u = (metS k d v).2.card := hcu
      rw [c7] at hcu
      have hle : u ≤ d.seek := by
        have hlt : u < 0 ∨ ((0 : Int) = 0 ∧ u ≤ (metS k d v).2.seek) := hlt
        rw [c6] at hlt
        have := o_card hu
        rcases hlt with q | q
        · omega
        · exact q.2
      by_cases e : u = d.at_
      · by_cases ef : f = d.field_ + 1
        · rw [e, ef, ← hvg] at hy ⊢
          exact m1 hy
        · rw [e] at hy f2 ⊢
          have := h.flds hsn han f f1 (by omega) hy
          exact ⟨m2 _ this.1, m3 this.2⟩
      · have := h.here hsn u hu hcu (.inl (by omega)) f f1 f2 hy
        exact ⟨m2 _ this.1, m3 this.2⟩
    · by_cases e : atK (metS k d v).1 c u = atK k c u
      · have hu : atK (metS k d v).1 c u ≠ atK g c u := hu
        rw [e] at hu ⊢
        exact h.only u hu
      · obtain ⟨q1, q2, q3, q4⟩ := m4 u e
        have hug : atK g c u = 1 := by
          apply Classical.byContradiction
          intro hne
          have hne2 : atK k c u ≠ atK g c u := by rw [q3]; exact fun z => hne z.symm
          exact hne (h.only u hne2).1
        exact ⟨hug, q4, d.at_, d.field_ + 1, a2, by rw [a3]; exact hgd, by omega, by omega, by rw [q1]; exact hvg⟩
    · show (metS k d v).2.seek < 16 + 8 * (metS k d v).2.card + 8
      rw [c6, c7]; exact h.s8 hsn
    · have := o_end a2.1; omega
    · have q : (metS k d v).2.seek = 0 := q
      rw [c6] at q; exact absurd q hsn
    · have hlt : (metS k d v).2.seek < u := hlt
      rw [c6, ← a1] at hlt
      have := o_next a2.1 hu.1 hlt
      omega
    · have hpot := h.pot
      rw [if_pos hsn] at hpot
      show ((i + 1 : Nat) : Int) ≤ p + 1 - 16 + 2 * (metS k d v).2.card + (if (metS k d v).2.seek ≠ 0 then 1 else 0)
      rw [c7, c6, if_pos hsn]
      omega
  case more v hv =>
    left
    have hsn : d.seek ≠ 0 := by assumption
    have han : d.at_ ≠ 0 := by assumption
    have hln : d.field_ + 1 < (headH k d.at_).n := by assumption
    rw [h.sk.n] at hln
    obtain ⟨a1, a2, a3, a4, a5⟩ := h.at_ hsn han
    obtain ⟨hcg, hgd⟩ := h.cur hsn
    have hvg : v = wordAt g (d.at_ + (d.field_ + 1)) := by rw [hv]; exact scan_word h.sk a2.1 a4 (by omega)
    obtain ⟨m1, m2, m3, m4, m5⟩ := met_facts h.sk v
    obtain ⟨c1, c2, c3, c4, c5, c6, c7⟩ := met_col k d v
    have hpa := h.pa hsn han
    refine ⟨p + 1, hsk, c1.trans h.phase, by show 0 ≤ (metS k d v).2.card; rw [c7]; exact h.c0, by show (metS k d v).2.card ≤ _; rw [c7]; exact h.c1, fun j hj => ?_, fun u hu hcu hgu hy => ?_, fun u hu hcu hgu f f1 f2 hy => ?_, fun _ => ?_, fun _ u hu hcu hlt f f1 f2 hy => ?_, fun _ _ => ?_, fun _ _ f f1 f2 hy => ?_, fun u hu => ?_, by show 0 ≤ (metS k d v).2.seek; rw [c6]; exact h.s0, fun _ => ?_, by have := h.p0; omega, ?_, fun q => ?_, fun _ _ => ?_, fun _ q => ?_, ?_⟩
    · have hj : (metS k d v).2.card < (j : Int) ∨ ((j : Int) = (metS k d v).2.card ∧ (metS k d v).2.seek = 0) := hj
      rw [c7, c6] at hj
      rw [m5]; exact h.hi j hj
    · have hcu : crd u < (metS k d v).2.card := hcu
      rw [c7] at hcu
      rw [m5]; exact h.lo u hu hcu hgu hy
    · have hcu : crd u < (metS k d v).2.card := hcu
      rw [c7] at hcu
      exact m2 _ (h.shaded u hu hcu hgu f f1 f2 hy)
    · show (metS k d v).2.card < _ ∧ g.cards.getD (metS k d v).2.card.toNat false = true
      rw [c7]; exact ⟨hcg, hgd⟩
    · have hcu : crd u = (metS k d v).2.card := hcu
      rw [c7] at hcu
      have hle : u < d.at_ := by
        have hlt : u < (metS k d v).2.at_ ∨ ((metS k d v).2.at_ = 0 ∧ u ≤ (metS k d v).2.seek) := hlt
        rw [c6, c4] at hlt
        rcases hlt with q | q
        · exact q
        · exact absurd q.1 han
      have := h.here hsn u hu hcu (.inl hle) f f1 f2 hy
      exact ⟨m2 _ this.1, m3 this.2⟩
    · show (metS k d v).2.at_ = (metS k d v).2.seek ∧ isO g (metS k d v).2.at_ ∧ crd (metS k d v).2.at_ = (metS k d v).2.card ∧ 0 ≤ d.field_ + 1 ∧ d.field_ + 1 < (headH g (metS k d v).2.at_).n
      rw [c4, c6, c7]
      exact ⟨a1, a2, a3, by omega, hln⟩
    · have f2 : f ≤ d.field_ + 1 := f2
      have hy : youngH g (wordAt g ((metS k d v).2.at_ + f)) = true := hy
      show atK (metS k d v).1 c (wordAt g ((metS k d v).2.at_ + f)) ≠ 1 ∧ (metS k d v).2.met = true
      rw [c4] at hy ⊢
      by_cases ef : f = d.field_ + 1
      · rw [ef, ← hvg] at hy ⊢
        exact m1 hy
      · have := h.flds hsn han f f1 (by omega) hy
        exact ⟨m2 _ this.1, m3 this.2⟩
    · by_cases e : atK (metS k d v).1 c u = atK k c u
      · have hu : atK (metS k d v).1 c u ≠ atK g c u := hu
        rw [e] at hu ⊢
        exact h.only u hu
      · obtain ⟨q1, q2, q3, q4⟩ := m4 u e
        have hug : atK g c u = 1 := by
          apply Classical.byContradiction
          intro hne
          have hne2 : atK k c u ≠ atK g c u := by rw [q3]; exact fun z => hne z.symm
          exact hne (h.only u hne2).1
        exact ⟨hug, q4, d.at_, d.field_ + 1, a2, by rw [a3]; exact hgd, by omega, by omega, by rw [q1]; exact hvg⟩
    · show (metS k d v).2.seek < 16 + 8 * (metS k d v).2.card + 8
      rw [c6, c7]; exact h.s8 hsn
    · have := o_end a2.1; omega
    · have q : (metS k d v).2.seek = 0 := q
      rw [c6] at q; exact absurd q hsn
    · show p + 1 = (metS k d v).2.at_ + 1 + (d.field_ + 1)
      rw [c4]; omega
    · have q : (metS k d v).2.at_ = 0 := q
      rw [c4] at q; exact absurd q han
    · have hpot := h.pot
      rw [if_pos hsn] at hpot
      show ((i + 1 : Nat) : Int) ≤ p + 1 - 16 + 2 * (metS k d v).2.card + (if (metS k d v).2.seek ≠ 0 then 1 else 0)
      rw [c7, c6, if_pos hsn]
      omega
  case next a hn =>
    left
    have hsn : d.seek ≠ 0 := by assumption
    have ha0 : d.at_ = 0 := by assumption
    rw [h.sk.next] at hn
    obtain ⟨hcg, hgd⟩ := h.cur hsn
    obtain ⟨n1, n2, n3, n4⟩ := nextO_some hn
    rw [mem_onH h.c0 hcg] at n1
    have hO : isO g a := ⟨n1.1, n3⟩
    have n1' := n1
    have hca : crd a = d.card := by unfold crd; omega
    have hpn := h.pn hsn ha0 a hO n2 (by omega)
    have hfit := head_fits n1.1
    have hend := o_end n1.1
    have hs0 := h.s0
    have hc00 := h.c0
    obtain ⟨_, n12, n13⟩ := n1
    refine ⟨a + 1, hsk, h.phase, h.c0, h.c1, fun j hj => h.hi j (hj.imp id fun q => absurd q.2 (by show ¬ a = 0; omega)), h.lo, h.shaded, fun _ => ⟨hcg, hgd⟩, fun _ u hu hcu hlt f f1 f2 hy => ?_, fun _ _ => ⟨rfl, hO, hca, Int.le_refl _, by show (0 : Int) < (headH g a).n; omega⟩, fun _ _ f f1 f2 => ?_, h.only, by show 0 ≤ a; omega, fun _ => by show a < 16 + 8 * d.card + 8; omega, by have := h.p0; omega, by omega, fun q => absurd q (by show ¬ a = 0; omega), fun _ _ => by show a + 1 = a + 1 + 0; omega, fun _ q => absurd q (by show ¬ a = 0; omega), ?_⟩
    · have hult : u < a := by
        rcases hlt with q | q
        · exact q
        · exact absurd q.1 (by show ¬ a = 0; omega)
      have hcu : crd u = d.card := hcu
      have hb := o_card hu
      have hle : u ≤ d.seek := by
        apply Classical.byContradiction
        intro hgt
        have := n4 u ((mem_onH h.c0 hcg).2 ⟨hu.1, by omega, by omega⟩) (by omega) hu.2
        omega
      exact h.here hsn u hu hcu (.inr ⟨ha0, hle⟩) f f1 f2 hy
    · have f2 : f ≤ 0 := f2
      omega
    · have hpot := h.pot
      rw [if_pos hsn] at hpot
      show ((i + 1 : Nat) : Int) ≤ a + 1 - 16 + 2 * d.card + (if a ≠ 0 then 1 else 0)
      rw [if_pos (by omega)]
      omega
  case done hn =>
    left
    have hsn : d.seek ≠ 0 := by assumption
    have ha0 : d.at_ = 0 := by assumption
    have hn : nextO k d.card d.seek = none := by assumption
    rw [h.sk.next] at hn
    obtain ⟨hcg, hgd⟩ := h.cur hsn
    have h8 := h.s8 hsn
    have hle : ∀ u, isO g u → crd u = d.card → u ≤ d.seek := fun u hu hcu => by
      have hb := o_card hu
      apply Classical.byContradiction
      intro hgt
      exact nextO_none hn u ((mem_onH h.c0 hcg).2 ⟨hu.1, by omega, by omega⟩) (by omega) hu.2
    have hat : ∀ u, atK (if d.met = true then cset k d.card true else k) c u = atK k c u := fun u => by
      by_cases e : d.met = true
      · rw [if_pos e, atK_cset]
      · rw [if_neg e]
    have hcd : ∀ j : Nat, (j : Int) ≠ d.card → (if d.met = true then cset k d.card true else k).cards.getD j false = k.cards.getD j false := fun j hj => by
      by_cases e : d.met = true
      · rw [if_pos e]; exact set_other hj h.c0
      · rw [if_neg e]
    refine ⟨p, hsk, h.phase, by show 0 ≤ d.card + 1; have := h.c0; omega, by show d.card + 1 ≤ _; omega, fun j hj => ?_, fun u hu hcu hgu hy => ?_, fun u hu hcu hgu f f1 f2 hy => ?_, fun q => absurd rfl q, fun q => absurd rfl q, fun q => absurd rfl q, fun q => absurd rfl q, fun u hu => ?_, Int.le_refl _, fun q => absurd rfl q, h.p0, h.p1, fun _ u hu hcu => ?_, fun q => absurd rfl q, fun q => absurd rfl q, ?_⟩
    · have hj1 : d.card < (j : Int) := by
        rcases hj with hj | ⟨hj, _⟩
        · have hj : d.card + 1 < (j : Int) := hj; omega
        · have hj : (j : Int) = d.card + 1 := hj; omega
      rw [hcd j (by omega)]
      exact h.hi j (.inl hj1)
    · have hcu : crd u < d.card + 1 := hcu
      have hb := o_card hu
      by_cases e : crd u = d.card
      · obtain ⟨f, f1, f2, hyy⟩ := hy
        have := (h.here hsn u hu e (.inr ⟨ha0, hle u hu e⟩) f f1 f2 hyy).2
        rw [if_pos this, e]
        exact set_here h.c0 (by rw [h.sk.clen]; exact hcg)
      · rw [hcd _ (by omega)]
        exact h.lo u hu (by omega) hgu hy
    · have hcu : crd u < d.card + 1 := hcu
      rw [hat]
      by_cases e : crd u = d.card
      · exact (h.here hsn u hu e (.inr ⟨ha0, hle u hu e⟩) f f1 f2 hy).1
      · exact h.shaded u hu (by omega) hgu f f1 f2 hy
    · rw [hat] at hu ⊢; exact h.only u hu
    · have hcu : d.card + 1 ≤ crd u := hcu
      have hb := o_card hu
      exact h.pn hsn ha0 u hu (by omega) (by omega)
    · have hpot := h.pot
      rw [if_pos hsn] at hpot
      show ((i + 1 : Nat) : Int) ≤ p - 16 + 2 * (d.card + 1) + (if (0 : Int) ≠ 0 then 1 else 0)
      rw [if_neg (by decide)]
      omega
end Go.Abs
