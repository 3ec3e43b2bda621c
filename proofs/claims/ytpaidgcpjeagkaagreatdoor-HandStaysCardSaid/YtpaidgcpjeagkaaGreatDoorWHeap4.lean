/- Walks: an object's head; all objects; a new heap; a head is set; in plain Lean. -/
import Derived.Test.YtpaidgcpjeagkaaGreatDoorWHeap1
set_option linter.all false
set_option linter.unusedVariables false
set_option linter.unusedSimpArgs false
namespace Go.Abs
open Go.Proofs Go.Proofs.YtpaidgcpjeagkaaGreatDoor
set_option maxRecDepth 8000

abbrev nilS : TV := .lit (.slice none 0 0)
def Hp.zero : Hp := ⟨[], [], ⟨[], [], []⟩, []⟩
/-- There are not too many cells that are told of as free. -/
def Hp.light (h : Hp) : Prop := (flats [h.free]).length ≤ most

def headE (h : Hp) (a : Int) : Int := bif mayH h [] then (bif decide (roomAt h.pages a = 0) then 3 else (bif (unp (wordAt h a)).used then 0 else 3)) else 1
def headH (h : Hp) (a : Int) : Hd := bif decide (headE h a = 0) then unp (wordAt h a) else Hd.zero
def usedH (h : Hp) : List Int := bif mayH h [] then (cellStarts h.pages).filter (fun a => wordAt h a != 0) else []
def newH (n : Int) : Hp := bif pgN n then ⟨zer (n * 16).toNat, List.replicate n.toNat ⟨0, 0⟩, ⟨[], [], []⟩, List.replicate (2 * n).toNat false⟩ else Hp.zero

theorem hHMay0_spec (g : Hp) (hl : g.light) : Spec X 62 [] [g.tv, nilS] (Ret [] (.bo (mayH g []))) :=
  (hHMay_spec g [] hl (by unfold most; simp)).args (.cons _ _ _ _ (.refl _) (.cons _ _ _ _ (.sl .lists [] _ rfl) .nil))
theorem mayH_shaped {h : Hp} {cs : List Lists} (hm : mayH h cs = true) : shapedH h = true := by
  unfold mayH at hm; rw [Bool.and_eq_true] at hm; exact hm.1

theorem headH_no {g : Hp} {a : Int} {e : Int} (h : headE g a = e) (he : e ≠ 0) : headH g a = Hd.zero := by unfold headH; rw [h, decide_eq_false he]; rfl
theorem headH_yes {g : Hp} {a : Int} (h : headE g a = 0) : headH g a = unp (wordAt g a) := by unfold headH; rw [h]; rfl

theorem hHead_spec (g : Hp) (a : Int) (hl : g.light) : Spec X 53 [] [g.tv, .int a] (Ret [] (.tup [(headH g a).tv, .int (headE g a)])) := by
  refine spec_go X_ok Tryz.f53 (by kernel_rfl) (by kernel_rfl) (by kernel_rfl) fun hb hH => ⟨rfl, ?_⟩
  show ACall _ _ _ _ _ _
  refine call_ret (hHMay0_spec g hl) rfl ?_
  show ABr (!mayH g []) _ _
  refine ⟨fun h => ?_, fun h => ?_⟩
  · have hm : mayH g [] = false := by simpa using h
    have hE : headE g a = 1 := by unfold headE; rw [hm]; rfl
    rw [headH_no hE (by decide), hE]
    show ARet _ _ _
    exact ret_d rfl ⟨rfl, rfl⟩
  have hm : mayH g [] = true := by simpa using h
  have hs := mayH_shaped hm
  obtain ⟨_, _, hsl, _⟩ := shapedH_of hs
  show ACall _ _ _ _ _ _
  refine call_ret (Room_spec g.pages a) rfl ?_
  show ABr (decide (roomAt g.pages a = 0)) _ _
  refine ⟨fun h => ?_, fun h => ?_⟩
  · have hE : headE g a = 3 := by unfold headE; rw [hm, h]; rfl
    rw [headH_no hE (by decide), hE]
    show ARet _ _ _
    exact ret_d rfl ⟨rfl, rfl⟩
  · have had := room_adr (h := g) (a := a) (of_decide_eq_false h)
    have hr := h
    show ACall _ _ _ _ _ _
    refine call_ret (word_spec g a hsl had) rfl ?_
    show ACall _ _ _ _ _ _
    refine call_ret (hUnpack_spec (wordAt g a)) rfl ?_
    show ABr (!(unp (wordAt g a)).used) _ _
    refine ⟨fun h => ?_, fun h => ?_⟩
    · have hu : (unp (wordAt g a)).used = false := by simpa using h
      have hE : headE g a = 3 := by unfold headE; rw [hm, hr, hu]; rfl
      rw [headH_no hE (by decide), hE]
      show ARet _ _ _
      exact ret_d rfl ⟨rfl, rfl⟩
    · have hu : (unp (wordAt g a)).used = true := by simpa using h
      have hE : headE g a = 0 := by unfold headE; rw [hm, hr, hu]; rfl
      rw [headH_yes hE, hE]
      show ARet _ _ _
      exact ret_d rfl ⟨rfl, rfl⟩

theorem hNew_spec (n : Int) : Spec X 23 [] [.int n] (Ret [] (.tup [(newH n).tv, .int (newE n)])) := by
  refine spec_go X_ok Tryz.f23 (by kernel_rfl) (by kernel_rfl) (by kernel_rfl) fun hb hH => ⟨rfl, ?_⟩
  show ACall _ _ _ _ _ _
  refine call_ret (aNew_spec n) rfl ?_
  cases hp : pgN n with
  | false =>
    have e1 : newE n = 1 := by unfold newE; rw [hp]; rfl
    have e2 : newH n = Hp.zero := by unfold newH; rw [hp]; rfl
    rw [e2, e1]
    show ABr _ _ _
    refine ⟨fun _ => ?_, fun h => absurd h (by decide)⟩
    show ARet _ _ _
    exact ⟨[], [], _, .cons _ _ _ _ (.agg _ _ (.cons _ _ _ _ (.nilsl .int) (.cons _ _ _ _ (.nilsl .page) (.cons _ _ _ _ (.nilsl .int) (.cons _ _ _ _ (.nilsl .int) (.cons _ _ _ _ (.nilsl .int) (.cons _ _ _ _ (.nilsl .bool) .nil))))))) (.cons _ _ _ _ .same .nil), .nil, rfl, rfl, rfl⟩
  | true =>
    have e1 : newE n = 0 := by unfold newE; rw [hp]; rfl
    have e2 : newH n = ⟨zer (n * 16).toNat, List.replicate n.toNat ⟨0, 0⟩, ⟨[], [], []⟩, List.replicate (2 * n).toNat false⟩ := by unfold newH; rw [hp]; rfl
    have e3 : newW n = zer (n * 16).toNat := by unfold newW; rw [hp]; rfl
    have hn := of_decide_eq_true hp
    rw [e2, e1, e3]
    show ABr _ _ _
    refine ⟨fun h => absurd h (by decide), fun _ => ?_⟩
    show AOb ((0 : Int) ≤ n ∧ n ≤ n ∧ n ≤ (most : Int)) _
    refine ⟨by unfold most; omega, ?_⟩
    have hl : (zer (n * 16).toNat).length = (n * 16).toNat := by unfold zer; simp
    have ht : tdv ((zer (n * 16).toNat).length : Int) 8 = 2 * n := by
      have := len8 (zer (n * 16).toNat).length (by rw [hl]; unfold maxN; omega)
      rw [this, hl]
      omega
    show AOb _ _
    refine ⟨by decide, ?_⟩
    show AOb ((0 : Int) ≤ tdv ((zer (n * 16).toNat).length : Int) 8 ∧ tdv ((zer (n * 16).toNat).length : Int) 8 ≤ tdv ((zer (n * 16).toNat).length : Int) 8 ∧ tdv ((zer (n * 16).toNat).length : Int) 8 ≤ (most : Int)) _
    refine ⟨by rw [ht]; unfold most; omega, ?_⟩
    show ARet _ _ _
    exact ⟨[], [], _, .cons _ _ _ _ (.agg _ _ (.cons _ _ _ _ (.d _) (.cons _ _ _ _ (.frz_eq (k := .page) rfl rfl) (.cons _ _ _ _ (.nilsl .int) (.cons _ _ _ _ (.nilsl .int) (.cons _ _ _ _ (.nilsl .int) (.cons _ _ _ _ (.frz_eq (k := .bool) (l := List.replicate (tdv ((zer (n * 16).toNat).length : Int) 8).toNat false) rfl (by rw [ht]; rfl)) .nil))))))) (.cons _ _ _ _ .same .nil), .nil, rfl, rfl, rfl⟩

theorem hown_spec (g : Hp) (hl : g.light) (hs : shapedH g = true) : Spec X 60 [] [g.tv] (Ret [] g.tv) := by
  refine spec_go X_ok Tryz.f60 (by kernel_rfl) (by kernel_rfl) (by kernel_rfl) fun hb hH => ⟨rfl, ?_⟩
  obtain ⟨_, _, h1, h2, h3, h4⟩ := shapedH_of hs
  have hf : g.free.l0.length + g.free.l1.length + g.free.l2.length ≤ most := by
    have := hl
    unfold Hp.light at this
    simp [flats, Lists.flat] at this
    omega
  have hm : 1024 ≤ most := by decide
  show ADCall _ _ _ _ _ _
  refine .mk _ _ (CloneInts_spec g.w (by omega)) rfl ?_
  show ADCall _ _ _ _ _ _
  refine .mk _ _ (ClonePages_spec g.pages (by omega)) rfl ?_
  show ADCall _ _ _ _ _ _
  refine .mk _ _ (CloneBools_spec g.cards (by omega)) rfl ?_
  show ∃ n, _
  refine ⟨4, ?_⟩
  show ALoop _ _ _ _
  refine .next ?_
  show ABr _ _ _
  refine ⟨fun _ => ?_, fun h => absurd h (by decide)⟩
  show AOb _ _
  refine ⟨by decide, ?_⟩
  show ACall _ _ _ _ _ _
  refine call_ret (CloneInts_spec g.free.l0 (by omega)) rfl ?_
  show AOb _ _
  refine ⟨by decide, ?_⟩
  show ALoop _ _ _ _
  refine .next ?_
  show ABr _ _ _
  refine ⟨fun _ => ?_, fun h => absurd h (by decide)⟩
  show AOb _ _
  refine ⟨by decide, ?_⟩
  show ACall _ _ _ _ _ _
  refine call_ret (CloneInts_spec g.free.l1 (by omega)) rfl ?_
  show AOb _ _
  refine ⟨by decide, ?_⟩
  show ALoop _ _ _ _
  refine .next ?_
  show ABr _ _ _
  refine ⟨fun _ => ?_, fun h => absurd h (by decide)⟩
  show AOb _ _
  refine ⟨by decide, ?_⟩
  show ACall _ _ _ _ _ _
  refine call_ret (CloneInts_spec g.free.l2 (by omega)) rfl ?_
  show AOb _ _
  refine ⟨by decide, ?_⟩
  show ALoop _ _ _ _
  refine .next ?_
  show ABr _ _ _
  refine ⟨fun h => absurd h (by decide), fun _ => ?_⟩
  show ARet _ _ _
  exact ret_d rfl ⟨rfl, rfl⟩
end Go.Abs

namespace Go.Abs
open Go.Proofs Go.Proofs.YtpaidgcpjeagkaaGreatDoor
set_option maxRecDepth 8000

def setE (g : Hp) (a : Int) (x : Hd) : Int := bif decide (headE g a = 0) then (bif decide (x.May ∧ x.used = true ∧ x.n = (headH g a).n) then 0 else 1) else headE g a
def putH (g : Hp) (a : Int) (v : Int) : Hp := ⟨g.w.set (a - 16).toNat v, g.pages, g.free, g.cards⟩
def setH (g : Hp) (a : Int) (x : Hd) : Hp := bif decide (setE g a x = 0) then putH g a x.word else Hp.zero

theorem setH_no {g : Hp} {a : Int} {x : Hd} {e : Int} (h : setE g a x = e) (he : e ≠ 0) : setH g a x = Hp.zero := by unfold setH; rw [h, decide_eq_false he]; rfl
theorem setH_yes {g : Hp} {a : Int} {x : Hd} (h : setE g a x = 0) : setH g a x = putH g a x.word := by unfold setH; rw [h]; rfl

theorem headE_of {g : Hp} {a : Int} (h : headE g a = 0) : mayH g [] = true ∧ roomAt g.pages a ≠ 0 ∧ (unp (wordAt g a)).used = true := by
  unfold headE at h
  cases hm : mayH g [] with
  | false => rw [hm] at h; exact absurd h (by simp)
  | true =>
    rw [hm] at h
    by_cases hr : roomAt g.pages a = 0
    · rw [decide_eq_true hr] at h; exact absurd h (by simp)
    · rw [decide_eq_false hr] at h
      cases hu : (unp (wordAt g a)).used with
      | false => rw [hu] at h; exact absurd h (by decide)
      | true => exact ⟨rfl, hr, rfl⟩

theorem hSet_spec (g : Hp) (a : Int) (x : Hd) (hl : g.light) : Spec X 52 [] [g.tv, .int a, x.tv] (Ret [] (.tup [(setH g a x).tv, .int (setE g a x)])) := by
  refine spec_go X_ok Tryz.f52 (by kernel_rfl) (by kernel_rfl) (by kernel_rfl) fun hb hH => ⟨rfl, ?_⟩
  show ACall _ _ _ _ _ _
  refine call_ret (hHead_spec g a hl) rfl ?_
  show ABr (headE g a != 0) _ _
  refine ⟨fun h => ?_, fun h => ?_⟩
  · have h0 : headE g a ≠ 0 := by simpa using h
    have hE : setE g a x = headE g a := by unfold setE; rw [decide_eq_false h0]; rfl
    rw [setH_no hE h0, hE]
    show ARet _ _ _
    exact ⟨[], [], _, .cons _ _ _ _ (.agg _ _ (.cons _ _ _ _ (.nilsl .int) (.cons _ _ _ _ (.nilsl .page) (.cons _ _ _ _ (.nilsl .int) (.cons _ _ _ _ (.nilsl .int) (.cons _ _ _ _ (.nilsl .int) (.cons _ _ _ _ (.nilsl .bool) .nil))))))) (.cons _ _ _ _ .same .nil), .nil, rfl, rfl, rfl⟩
  · have h0 : headE g a = 0 := by simpa using h
    obtain ⟨hm, hr, hu⟩ := headE_of h0
    have hs := mayH_shaped hm
    obtain ⟨hw, _, hsl, _⟩ := shapedH_of hs
    have had := room_adr (h := g) (a := a) hr
    show ACall _ _ _ _ _ _
    refine call_ret (hPack_spec x) rfl ?_
    have hiff : (bif (bif packE x != 0 then true else !x.used) then true else x.n != (headH g a).n) = !decide (x.May ∧ x.used = true ∧ x.n = (headH g a).n) := by
      unfold packE
      by_cases c1 : x.May
      · rw [if_pos c1]
        cases c2 : x.used with
        | false => simp [c1, c2]
        | true =>
          by_cases c3 : x.n = (headH g a).n <;> simp [c1, c2, c3]
      · rw [if_neg c1]
        simp [c1]
    show ABr (bif (bif packE x != 0 then true else !x.used) then true else x.n != (headH g a).n) _ _
    rw [hiff]
    refine ⟨fun h => ?_, fun h => ?_⟩
    · have hc : decide (x.May ∧ x.used = true ∧ x.n = (headH g a).n) = false := by
        cases hd : decide (x.May ∧ x.used = true ∧ x.n = (headH g a).n) with
        | false => rfl
        | true => rw [hd] at h; exact absurd h (by decide)
      have hE : setE g a x = 1 := by unfold setE; rw [h0, hc]; rfl
      rw [setH_no hE (by decide), hE]
      show ARet _ _ _
      exact ⟨[], [], _, .cons _ _ _ _ (.agg _ _ (.cons _ _ _ _ (.nilsl .int) (.cons _ _ _ _ (.nilsl .page) (.cons _ _ _ _ (.nilsl .int) (.cons _ _ _ _ (.nilsl .int) (.cons _ _ _ _ (.nilsl .int) (.cons _ _ _ _ (.nilsl .bool) .nil))))))) (.cons _ _ _ _ .same .nil), .nil, rfl, rfl, rfl⟩
    · have hc : decide (x.May ∧ x.used = true ∧ x.n = (headH g a).n) = true := by
        cases hd : decide (x.May ∧ x.used = true ∧ x.n = (headH g a).n) with
        | true => rfl
        | false => rw [hd] at h; exact absurd h (by decide)
      have hE : setE g a x = 0 := by unfold setE; rw [h0, hc]; rfl
      have hM : x.May := (of_decide_eq_true hc).1
      rw [setH_yes hE, hE]
      show ACall _ _ _ _ _ _
      refine call_ret (hown_spec g hl hs) rfl ?_
      have hp : packW x = x.word := if_pos hM
      show ACall _ _ _ _ _ _
      refine call_ret (aPut_spec g.w a (packW x) hw ⟨had.1, by have := had.2; omega⟩) rfl ?_
      rw [hp]
      show ARet _ _ _
      exact ret_d rfl ⟨rfl, rfl⟩
end Go.Abs

namespace Go.Abs

theorem mayH_of {g : Hp} {cs : List Lists} (h : mayH g cs = true) : shapedH g = true ∧ (∀ l ∈ g.free :: cs, listedB g l = true) ∧ (∀ a ∈ cellStarts g.pages, cellB g a = true) ∧ (flats (g.free :: cs)).Nodup := by
  unfold mayH at h
  simp only [Bool.and_eq_true, List.all_eq_true, decide_eq_true_eq] at h
  exact ⟨h.1, h.2.1, h.2.2.1, h.2.2.2⟩

theorem mayH_mk {g : Hp} {cs : List Lists} (h1 : shapedH g = true) (h2 : ∀ l ∈ g.free :: cs, listedB g l = true) (h3 : ∀ a ∈ cellStarts g.pages, cellB g a = true) (h4 : (flats (g.free :: cs)).Nodup) : mayH g cs = true := by
  unfold mayH
  simp only [Bool.and_eq_true, List.all_eq_true, decide_eq_true_eq]
  exact ⟨h1, h2, h3, h4⟩

/-! Words that are heads. -/
theorem isHd_unp {w : Int} (h : isHd w = true) : unp w = hdOf w ∧ (hdOf w).May := by
  have hm : (hdOf w).May := of_decide_eq_true h
  exact ⟨if_pos hm, hm⟩

theorem used_ne {w : Int} (h : isHd w = true) : (unp w).used = (w != 0) := by
  obtain ⟨e, hm⟩ := isHd_unp h
  rw [e]
  cases hu : (hdOf w).used with
  | true =>
    have h1 : w % 2 = 1 := of_decide_eq_true hu
    have : w ≠ 0 := by omega
    simp [this]
  | false =>
    have hz : hdOf w = Hd.zero := by
      unfold Hd.May at hm
      rw [if_neg (by simp [hu])] at hm
      exact hm
    have := hdOf_word w
    rw [hz] at this
    have hw : w = 0 := by rw [← this]; rfl
    subst hw
    rfl

theorem unp_word {x : Hd} (hm : x.May) : unp x.word = x ∧ isHd x.word = true := by
  have e := word_hdOf hm
  constructor
  · unfold unp; rw [if_pos (by rw [e]; exact hm), e]
  · unfold isHd; rw [e]; exact decide_eq_true hm

theorem word_ne {x : Hd} (hm : x.May) (hu : x.used = true) : x.word ≠ 0 := by
  have h := used_ne (unp_word hm).2
  rw [(unp_word hm).1, hu] at h
  intro e
  rw [e] at h
  exact absurd h (by decide)

/-! How many fields fit. -/
theorem cls_fits {n c : Int} (h1 : clsE n = 0) (h2 : clsOf n = c) (hc : 0 ≤ c ∧ c ≤ 2) : 1 ≤ n ∧ n < clsW c := by
  have hn : ¬ n < 1 ∧ ¬ n > 63 := by
    unfold clsE at h1
    by_cases g1 : n < 1
    · rw [if_pos g1] at h1; exact absurd h1 (by decide)
    · rw [if_neg g1] at h1
      by_cases g2 : n > 63
      · rw [if_pos g2] at h1; exact absurd h1 (by decide)
      · exact ⟨g1, g2⟩
  unfold clsOf at h2
  rw [if_neg (by omega)] at h2
  by_cases g1 : n ≤ 1
  · rw [if_pos g1] at h2; subst h2; exact ⟨by omega, by rw [show clsW 0 = 2 from rfl]; omega⟩
  · rw [if_neg g1] at h2
    by_cases g2 : n ≤ 3
    · rw [if_pos g2] at h2; subst h2; exact ⟨by omega, by rw [show clsW 1 = 4 from rfl]; omega⟩
    · rw [if_neg g2] at h2
      by_cases g3 : n ≤ 7
      · rw [if_pos g3] at h2; subst h2; exact ⟨by omega, by rw [show clsW 2 = 8 from rfl]; omega⟩
      · rw [if_neg g3] at h2; omega

theorem run_fits {n c : Int} (h1 : runE n = 0) (h2 : runOf n = c) : 1 ≤ n ∧ n < 16 * c ∧ clsE n = 0 := by
  unfold runE at h1
  unfold runOf at h2
  by_cases g0 : clsE n ≠ 0
  · rw [if_pos g0] at h1; exact absurd h1 g0
  · rw [if_neg g0] at h1 h2
    have hE : clsE n = 0 := by omega
    by_cases g1 : clsOf n < 3
    · rw [if_pos g1] at h1; exact absurd h1 (by decide)
    · rw [if_neg g1] at h2
      have hn : ¬ n < 1 := by
        intro g
        unfold clsE at hE
        rw [if_pos g] at hE
        exact absurd hE (by decide)
      exact ⟨by omega, by omega, hE⟩

/-- A cell with a head that is used: its fields fit. -/
theorem cell_fits {g : Hp} {a : Int} (hr : roomAt g.pages a ≠ 0) (hc : cellB g a = true) (hu : (unp (wordAt g a)).used = true) : 1 ≤ (unp (wordAt g a)).n ∧ (unp (wordAt g a)).n < roomAt g.pages a := by
  obtain ⟨_, i, hi⟩ := cellOf_mem (roomAt_pos hr)
  unfold cellB at hc
  rw [hu, cond_true, Bool.and_eq_true] at hc
  have hpg : pageAt g a = g.pages.getD i default := by
    unfold pageAt
    have := hi.div
    simp only at this
    rw [this]
    simp
  have hf := hc.2
  unfold fitsB at hf
  rw [hpg] at hf
  rcases hi.kind with ⟨k1, k2, k3, _, k5⟩ | ⟨k1, k2, k3, _, k5⟩
  · rw [k1] at hf
    have hf := of_decide_eq_true (show decide _ = true from hf)
    simp only at k5
    rw [k5]
    exact cls_fits hf.1 hf.2 ⟨k2, k3⟩
  · rw [k1] at hf
    have hf := of_decide_eq_true (show decide _ = true from hf)
    simp only at k5
    have := run_fits hf.1 hf.2
    rw [k5]
    omega

/-! Which are objects. -/
theorem usedH_eq {g : Hp} (hm : mayH g [] = true) : usedH g = (cellStarts g.pages).filter (fun a => wordAt g a != 0) := by unfold usedH; rw [hm]; rfl

theorem mem_usedH {g : Hp} {a : Int} : a ∈ usedH g ↔ headE g a = 0 := by
  constructor
  · intro h
    cases hm : mayH g [] with
    | false => unfold usedH at h; rw [hm] at h; cases h
    | true =>
      rw [usedH_eq hm, List.mem_filter] at h
      have hr := mem_starts.1 h.1
      have hc := (mayH_of hm).2.2.1 a h.1
      unfold cellB at hc
      rw [Bool.and_eq_true] at hc
      have hu := used_ne hc.1
      rw [h.2] at hu
      unfold headE
      rw [hm, decide_eq_false hr, hu]
      rfl
  · intro h
    obtain ⟨hm, hr, hu⟩ := headE_of h
    have hs := mem_starts.2 hr
    have hc := (mayH_of hm).2.2.1 a hs
    unfold cellB at hc
    rw [Bool.and_eq_true] at hc
    rw [usedH_eq hm, List.mem_filter]
    exact ⟨hs, by rw [← used_ne hc.1]; exact hu⟩

theorem usedH_sorted (g : Hp) : (usedH g).Pairwise (· < ·) := by
  unfold usedH
  cases mayH g [] with
  | false => exact List.Pairwise.nil
  | true => exact (starts_sorted g.pages).filter _

theorem head_fits {g : Hp} {a : Int} (h : headE g a = 0) : (headH g a).used = true ∧ 1 ≤ (headH g a).n ∧ (headH g a).n < roomAt g.pages a ∧ adr g a := by
  obtain ⟨hm, hr, hu⟩ := headE_of h
  rw [headH_yes h]
  have := cell_fits hr ((mayH_of hm).2.2.1 a (mem_starts.2 hr)) hu
  exact ⟨hu, this.1, this.2, room_adr hr⟩

/-- So many of a list are below. -/
def cntB (l : List Int) (a : Int) : Nat := (l.filter fun x => decide (x < a)).length

theorem cntB_in {l : List Int} (hs : l.Pairwise (· < ·)) {a : Int} (ha : a ∈ l) : cntB l a < l.length ∧ at0 l (cntB l a) = a ∧ cntB l (a + 1) = cntB l a + 1 := by
  induction l with
  | nil => cases ha
  | cons x r ih =>
    rw [List.pairwise_cons] at hs
    unfold cntB at ih ⊢
    rcases List.mem_cons.1 ha with rfl | ha
    · have h0 : (r.filter fun x => decide (x < a)) = [] := List.filter_eq_nil_iff.2 fun y hy => by have := hs.1 y hy; simp; omega
      have h1 : (r.filter fun x => decide (x < a + 1)) = [] := List.filter_eq_nil_iff.2 fun y hy => by have := hs.1 y hy; simp; omega
      rw [List.filter_cons_of_neg (by simp), List.filter_cons_of_pos (by simp; omega), h0, h1]
      exact ⟨by simp, rfl, rfl⟩
    · have hx := hs.1 a ha
      obtain ⟨h1, h2, h3⟩ := ih hs.2 ha
      rw [List.filter_cons_of_pos (by simpa using hx), List.filter_cons_of_pos (by simp; omega)]
      simp only [List.length_cons]
      exact ⟨by omega, h2, by omega⟩

theorem cntB_out {l : List Int} {a : Int} (ha : a ∉ l) : cntB l (a + 1) = cntB l a := by
  unfold cntB
  congr 1
  apply List.filter_congr
  intro x hx
  have : x ≠ a := fun e => ha (e ▸ hx)
  rw [decide_eq_decide]
  omega

theorem cntB_all {l : List Int} {a : Int} (h : ∀ x ∈ l, x < a) : cntB l a = l.length := by
  unfold cntB
  rw [List.filter_eq_self.2 fun x hx => by simpa using h x hx]

theorem cntB_none {l : List Int} {a : Int} (h : ∀ x ∈ l, a ≤ x) : cntB l a = 0 := by
  unfold cntB
  rw [List.filter_eq_nil_iff.2 fun x hx => by have := h x hx; simp; omega]
  rfl
end Go.Abs
