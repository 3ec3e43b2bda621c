/- A step of going through dirty cards, in plain Lean. -/
import Derived.Test.YtbbakbkmjhhbpaaGreatDoorWTraceK
import Derived.Test.YtbbakbkmjhhbpaaGreatDoorWCards2
set_option linter.all false
set_option linter.unusedVariables false
set_option linter.unusedSimpArgs false
namespace Go.Abs

/-- Does an object that is not old begin there? -/
def youngH (g : Hp) (a : Int) : Bool := decide (headE g a = 0) && !(headH g a).old

/-- A field's word, if it tells of what is not old, is shaded. -/
def metS (g : Hp) (c : Col) (v : Int) : Hp × Col := if youngH g v = true then (shadeG g c v, { shadeC g c v with met := true }) else (g, c)
def scanF (g : Hp) (c : Col) : Hp × Col :=
  if headE g c.at_ ≠ 0 ∨ c.field_ < 0 ∨ (headH g c.at_).n ≤ c.field_ then (g, { c with at_ := 0, field_ := 0 })
  else if c.field_ + 1 = (headH g c.at_).n then ((metS g c (wordOf g (c.at_ + 1 + c.field_))).1, { (metS g c (wordOf g (c.at_ + 1 + c.field_))).2 with at_ := 0, field_ := 0 })
  else ((metS g c (wordOf g (c.at_ + 1 + c.field_))).1, { (metS g c (wordOf g (c.at_ + 1 + c.field_))).2 with field_ := c.field_ + 1 })
def scanB (g : Hp) (c : Col) : Hp × Col :=
  if g.cards.getD c.card.toNat false = true then (cset g c.card false, { c with seek := 1, met := false, at_ := 0, field_ := 0 }) else (g, { c with card := c.card + 1 })
def scanE (g : Hp) (c : Col) : Hp × Col :=
  ((if c.met = true then cset g c.card true else g), { c with card := c.card + 1, seek := 0, met := false })
def scanS (g : Hp) (c : Col) : Hp × Col :=
  if mayH g [] = true ∧ c.phase = 4 ∧ 0 ≤ c.card then
    (if (g.cards.length : Int) ≤ c.card then (g, { c with phase := 5, seek := 0, card := 0, met := false, at_ := 0, field_ := 0 })
     else if c.seek = 0 then scanB g c
     else if c.at_ ≠ 0 then scanF g c
     else match nextO g c.card c.seek with
       | some a => (g, { c with at_ := a, field_ := 0, seek := a })
       | none => scanE g c)
  else (g, c)

theorem scan_idle {g : Hp} {c : Col} (h : ¬ (mayH g [] = true ∧ c.phase = 4 ∧ 0 ≤ c.card)) : scanS g c = (g, c) := by unfold scanS; rw [if_neg h]

/-- A step, case by case. -/
inductive SStep (g : Hp) (c : Col) : Hp → Col → Prop
  | idle (h : ¬ (mayH g [] = true ∧ c.phase = 4 ∧ 0 ≤ c.card)) : SStep g c g c
  | fin (hm : mayH g [] = true) (hp : c.phase = 4) (hc : (g.cards.length : Int) ≤ c.card) : SStep g c g { c with phase := 5, seek := 0, card := 0, met := false, at_ := 0, field_ := 0 }
  | clean (hm : mayH g [] = true) (hp : c.phase = 4) (h0 : 0 ≤ c.card) (hc : c.card < (g.cards.length : Int)) (hs : c.seek = 0) (hd : g.cards.getD c.card.toNat false = true) : SStep g c (cset g c.card false) { c with seek := 1, met := false, at_ := 0, field_ := 0 }
  | skip (hm : mayH g [] = true) (hp : c.phase = 4) (h0 : 0 ≤ c.card) (hc : c.card < (g.cards.length : Int)) (hs : c.seek = 0) (hd : g.cards.getD c.card.toNat false = false) : SStep g c g { c with card := c.card + 1 }
  | lost (hm : mayH g [] = true) (hp : c.phase = 4) (h0 : 0 ≤ c.card) (hc : c.card < (g.cards.length : Int)) (hs : c.seek ≠ 0) (ha : c.at_ ≠ 0) (hf : headE g c.at_ ≠ 0 ∨ c.field_ < 0 ∨ (headH g c.at_).n ≤ c.field_) : SStep g c g { c with at_ := 0, field_ := 0 }
  | last (hm : mayH g [] = true) (hp : c.phase = 4) (h0 : 0 ≤ c.card) (hc : c.card < (g.cards.length : Int)) (hs : c.seek ≠ 0) (ha : c.at_ ≠ 0) (hE : headE g c.at_ = 0) (hf : 0 ≤ c.field_) (hl : c.field_ + 1 = (headH g c.at_).n) (v : Int) (hv : v = wordOf g (c.at_ + 1 + c.field_)) :
      SStep g c (metS g c v).1 { (metS g c v).2 with at_ := 0, field_ := 0 }
  | more (hm : mayH g [] = true) (hp : c.phase = 4) (h0 : 0 ≤ c.card) (hc : c.card < (g.cards.length : Int)) (hs : c.seek ≠ 0) (ha : c.at_ ≠ 0) (hE : headE g c.at_ = 0) (hf : 0 ≤ c.field_) (hl : c.field_ + 1 < (headH g c.at_).n) (v : Int) (hv : v = wordOf g (c.at_ + 1 + c.field_)) :
      SStep g c (metS g c v).1 { (metS g c v).2 with field_ := c.field_ + 1 }
  | next (hm : mayH g [] = true) (hp : c.phase = 4) (h0 : 0 ≤ c.card) (hc : c.card < (g.cards.length : Int)) (hs : c.seek ≠ 0) (ha : c.at_ = 0) (a : Int) (hn : nextO g c.card c.seek = some a) : SStep g c g { c with at_ := a, field_ := 0, seek := a }
  | done (hm : mayH g [] = true) (hp : c.phase = 4) (h0 : 0 ≤ c.card) (hc : c.card < (g.cards.length : Int)) (hs : c.seek ≠ 0) (ha : c.at_ = 0) (hn : nextO g c.card c.seek = none) : SStep g c (if c.met = true then cset g c.card true else g) { c with card := c.card + 1, seek := 0, met := false }

theorem scan_step (g : Hp) (c : Col) : SStep g c (scanS g c).1 (scanS g c).2 := by
  unfold scanS
  by_cases h : mayH g [] = true ∧ c.phase = 4 ∧ 0 ≤ c.card
  · rw [if_pos h]
    obtain ⟨hm, hp, h0⟩ := h
    by_cases hc : (g.cards.length : Int) ≤ c.card
    · rw [if_pos hc]; exact .fin hm hp hc
    · rw [if_neg hc]
      have hc : c.card < (g.cards.length : Int) := by omega
      by_cases hs : c.seek = 0
      · rw [if_pos hs]
        unfold scanB
        cases hd : g.cards.getD c.card.toNat false with
        | true => rw [if_pos rfl]; exact .clean hm hp h0 hc hs hd
        | false => rw [if_neg (by decide)]; exact .skip hm hp h0 hc hs hd
      · rw [if_neg hs]
        by_cases ha : c.at_ ≠ 0
        · rw [if_pos ha]
          unfold scanF
          by_cases hf : headE g c.at_ ≠ 0 ∨ c.field_ < 0 ∨ (headH g c.at_).n ≤ c.field_
          · rw [if_pos hf]; exact .lost hm hp h0 hc hs ha hf
          · rw [if_neg hf]
            have hE : headE g c.at_ = 0 := Classical.byContradiction fun e => hf (.inl e)
            by_cases hl : c.field_ + 1 = (headH g c.at_).n
            · rw [if_pos hl]; exact .last hm hp h0 hc hs ha hE (by omega) hl _ rfl
            · rw [if_neg hl]; exact .more hm hp h0 hc hs ha hE (by omega) (by omega) _ rfl
        · rw [if_neg ha]
          have ha : c.at_ = 0 := by simpa using ha
          cases hn : nextO g c.card c.seek with
          | some a => exact .next hm hp h0 hc hs ha a hn
          | none => exact .done hm hp h0 hc hs ha hn
  · rw [if_neg h]; exact .idle h

/-! What a step keeps. -/
theorem met_cases (g : Hp) (c : Col) (v : Int) : (youngH g v = true ∧ metS g c v = (shadeG g c v, { shadeC g c v with met := true })) ∨ (youngH g v = false ∧ metS g c v = (g, c)) := by
  unfold metS
  cases youngH g v with
  | true => exact .inl ⟨rfl, if_pos rfl⟩
  | false => exact .inr ⟨rfl, if_neg (by decide)⟩
theorem met_marks (g : Hp) (c : Col) (v : Int) : Marks g (metS g c v).1 := by
  rcases met_cases g c v with ⟨_, e⟩ | ⟨_, e⟩ <;> rw [e]
  · exact shade_marks g c v
  · exact .refl g
theorem met_rises (g : Hp) (c : Col) (v : Int) : Rises c g (metS g c v).1 := by
  rcases met_cases g c v with ⟨_, e⟩ | ⟨_, e⟩ <;> rw [e]
  · exact shade_rises g c v
  · exact .refl c g
theorem met_word (g : Hp) (c : Col) (v : Int) (i : Nat) (h : (metS g c v).1.w.getD i default ≠ g.w.getD i default) : atK g c (16 + (i : Int)) = 1 := by
  rcases met_cases g c v with ⟨_, e⟩ | ⟨_, e⟩
  · rw [e] at h
    obtain ⟨h1, h2⟩ := shadeG_word g c v i h
    rw [show 16 + (i : Int) = v by omega]
    exact h2
  · rw [e] at h; exact absurd rfl h
theorem met_col (g : Hp) (c : Col) (v : Int) : (metS g c v).2.phase = c.phase ∧ (metS g c v).2.epoch = c.epoch ∧ (metS g c v).2.major = c.major ∧ (metS g c v).2.at_ = c.at_ ∧ (metS g c v).2.field_ = c.field_ ∧ (metS g c v).2.seek = c.seek ∧ (metS g c v).2.card = c.card := by
  rcases met_cases g c v with ⟨_, e⟩ | ⟨_, e⟩ <;> rw [e]
  · have h := shadeC_same g c v
    exact ⟨h.phase, h.epoch, h.major, h.at_, h.field_, h.seek, h.card⟩
  · exact ⟨rfl, rfl, rfl, rfl, rfl, rfl, rfl⟩
theorem met_work (g : Hp) (c : Col) (v : Int) (h : c.work.length ≤ 100) : (metS g c v).2.work.length ≤ 100 := by
  rcases met_cases g c v with ⟨_, e⟩ | ⟨_, e⟩ <;> rw [e]
  · exact shadeC_work4 g c v h
  · exact h

/-- What a step of going through cards leaves. -/
structure SKeep (g k : Hp) (c d : Col) : Prop where
  pages : k.pages = g.pages
  free : k.free = g.free
  wlen : k.w.length = g.w.length
  clen : k.cards.length = g.cards.length
  may : ∀ cs, mayH k cs = mayH g cs
  used : usedH k = usedH g
  headE : ∀ u, Abs.headE k u = Abs.headE g u
  head : ∀ u, (headH k u).used = (headH g u).used ∧ (headH k u).old = (headH g u).old ∧ (headH k u).n = (headH g u).n ∧ (headH k u).born = (headH g u).born
  word : ∀ i : Nat, k.w.getD i default ≠ g.w.getD i default → atK g c (16 + (i : Int)) = 1
  card : ∀ j : Nat, k.cards.getD j false ≠ g.cards.getD j false → (j : Int) = c.card
  rises : Rises c g k
  epoch : d.epoch = c.epoch
  major : d.major = c.major
  work : c.work.length ≤ 100 → d.work.length ≤ 100

theorem skeep_same (g : Hp) (c d : Col) (h1 : d.epoch = c.epoch) (h2 : d.major = c.major) (h3 : d.work = c.work) : SKeep g g c d :=
  ⟨rfl, rfl, rfl, rfl, fun _ => rfl, rfl, fun _ => rfl, fun _ => ⟨rfl, rfl, rfl, rfl⟩, fun _ h => absurd rfl h, fun _ h => absurd rfl h, .refl c g, h1, h2, fun h => h3 ▸ h⟩
theorem atK_cset (g : Hp) (n : Int) (b : Bool) (c : Col) (u : Int) : atK (cset g n b) c u = atK g c u := by unfold atK; rw [headE_cset, headH_cset]
theorem skeep_cset (g : Hp) (c d : Col) (b : Bool) (h0 : 0 ≤ c.card) (h1 : d.epoch = c.epoch) (h2 : d.major = c.major) (h3 : d.work = c.work) : SKeep g (cset g c.card b) c d := by
  refine ⟨rfl, rfl, rfl, cset_len g c.card b, may_cset g c.card b, used_cset g c.card b, headE_cset g c.card b, fun u => by rw [headH_cset]; exact ⟨rfl, rfl, rfl, rfl⟩, fun _ h => absurd rfl h, fun j hj => ?_, ⟨fun u => by rw [atK_cset]; exact Int.le_refl _, fun u e => by rw [atK_cset]; exact e⟩, h1, h2, fun h => h3 ▸ h⟩
  apply Classical.byContradiction
  intro hne
  apply hj
  show (g.cards.set c.card.toNat b).getD j false = _
  rw [List.getD_eq_getElem?_getD, List.getElem?_set_ne (by omega), List.getD_eq_getElem?_getD]
theorem skeep_met (g : Hp) (c d : Col) (v : Int) (h1 : d.epoch = (metS g c v).2.epoch) (h2 : d.major = (metS g c v).2.major) (h3 : d.work = (metS g c v).2.work) : SKeep g (metS g c v).1 c d := by
  have hM := met_marks g c v
  obtain ⟨_, c2, c3, _⟩ := met_col g c v
  exact ⟨hM.pages, hM.free, hM.len, by rw [hM.cards], hM.may, hM.used, hM.headE, hM.head, met_word g c v, fun j h => absurd (by rw [hM.cards]) h, met_rises g c v, h1.trans c2, h2.trans c3, fun h => by rw [h3]; exact met_work g c v h⟩

theorem SStep.keep {g k : Hp} {c d : Col} (h : SStep g c k d) : SKeep g k c d := by
  cases h
  case clean h0 hc hs hd hm hp => exact skeep_cset g c _ false (by assumption) rfl rfl rfl
  case last v hv => exact skeep_met g c _ v rfl rfl rfl
  case more v hv => exact skeep_met g c _ v rfl rfl rfl
  case done =>
    by_cases hm : c.met = true
    · rw [if_pos hm]; exact skeep_cset g c _ true (by assumption) rfl rfl rfl
    · rw [if_neg hm]; exact skeep_same g c _ rfl rfl rfl
  all_goals exact skeep_same g c _ rfl rfl rfl
end Go.Abs
