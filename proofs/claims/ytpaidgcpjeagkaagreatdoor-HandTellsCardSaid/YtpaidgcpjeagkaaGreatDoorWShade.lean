/- Walks: what is reached: colours. -/
import Derived.Test.YtpaidgcpjeagkaaGreatDoorWCards
set_option linter.all false
set_option linter.unusedVariables false
set_option linter.unusedSimpArgs false
namespace Go.Abs
open Go.Proofs Go.Proofs.YtpaidgcpjeagkaaGreatDoor
set_option maxRecDepth 8000

def colour (c : Col) (x : Hd) : Int := bif (bif (bif (bif x.old then !c.major else false) then true else decide (c.epoch < 0)) then true else decide (c.epoch > 1048576)) then 0 else (bif decide (x.mark < c.epoch) then 1 else (bif x.done then 3 else 2))
def atK (g : Hp) (c : Col) (a : Int) : Int := bif decide (headE g a = 0) then colour c (headH g a) else 0
def whiteH (g : Hp) (c : Col) (a : Int) : Bool := decide (atK g c a = 1)
def greyH (g : Hp) (c : Col) : List Int := (usedH g).filter fun a => decide (atK g c a = 2)

theorem colour_spec (c : Col) (x : Hd) : Spec X 54 [] [c.tv, x.tv] (Ret [] (.int (colour c x))) := by
  refine spec_go X_ok Tryz.f54 (by kernel_rfl) (by kernel_rfl) (by kernel_rfl) fun hb hH => ⟨rfl, ?_⟩
  unfold colour
  obtain ⟨u, o, d, n, b, m⟩ := x
  show ABr ((bif o then !c.major else false)) _ _
  refine ⟨fun h => ?_, fun h => ?_⟩
  · rw [h]
    show ABr _ _ _
    refine ⟨fun _ => ?_, fun h => absurd h (by decide)⟩
    show ARet _ _ _
    exact ret_d rfl ⟨rfl, rfl⟩
  · rw [h]
    show ABr ((decide (c.epoch < 0))) _ _
    refine ⟨fun h => ?_, fun h => ?_⟩
    · rw [h]
      show ABr _ _ _
      refine ⟨fun _ => ?_, fun h => absurd h (by decide)⟩
      show ARet _ _ _
      exact ret_d rfl ⟨rfl, rfl⟩
    · rw [h]
      show ABr ((decide (c.epoch > 1048576))) _ _
      refine ⟨fun h => ?_, fun h => ?_⟩
      · rw [h]
        show ARet _ _ _
        exact ret_d rfl ⟨rfl, rfl⟩
      · rw [h]
        show ABr ((decide (m < c.epoch))) _ _
        refine ⟨fun h => ?_, fun h => ?_⟩
        · rw [h]
          show ARet _ _ _
          exact ret_d rfl ⟨rfl, rfl⟩
        · rw [h]
          show ABr (d) _ _
          refine ⟨fun h => ?_, fun h => ?_⟩
          · rw [h]
            show ARet _ _ _
            exact ret_d rfl ⟨rfl, rfl⟩
          · rw [h]
            show ARet _ _ _
            exact ret_d rfl ⟨rfl, rfl⟩

theorem at_head {g : Hp} {a : Int} (h : headE g a ≠ 0) : headH g a = Hd.zero := headH_no rfl h

theorem at_spec (g : Hp) (c : Col) (a : Int) (hl : g.light) : Spec X 36 [] [g.tv, c.tv, .int a] (Ret [] (.tup [(headH g a).tv, .int (atK g c a)])) := by
  refine spec_go X_ok Tryz.f36 (by kernel_rfl) (by kernel_rfl) (by kernel_rfl) fun hb hH => ⟨rfl, ?_⟩
  show ACall _ _ _ _ _ _
  refine call_ret (hHead_spec g a hl) rfl ?_
  show ABr (headE g a != 0) _ _
  refine ⟨fun h => ?_, fun h => ?_⟩
  · have hE : headE g a ≠ 0 := by simpa using h
    rw [show atK g c a = 0 from by unfold atK; rw [decide_eq_false hE]; rfl]
    show ARet _ _ _
    exact ret_d rfl ⟨rfl, rfl⟩
  · have hE : headE g a = 0 := by simpa using h
    rw [show atK g c a = colour c (headH g a) from by unfold atK; rw [decide_eq_true hE]; rfl]
    show ADCall _ _ _ _ _ _
    refine .mk _ _ (colour_spec c (headH g a)) rfl ?_
    show ARet _ _ _
    exact ret_d rfl ⟨rfl, rfl⟩

theorem White_spec (g : Hp) (c : Col) (a : Int) (hl : g.light) : Spec X 17 [] [g.tv, c.tv, .int a] (Ret [] (.bo (whiteH g c a))) := by
  refine spec_go X_ok Tryz.f17 (by kernel_rfl) (by kernel_rfl) (by kernel_rfl) fun hb hH => ⟨rfl, ?_⟩
  show ACall _ _ _ _ _ _
  refine call_ret (at_spec g c a hl) rfl ?_
  show ARet _ _ _
  exact ret_d rfl ⟨rfl, rfl⟩

/-! Deleting from a slice that is the first part of a row. -/
theorem getD_left {l z : List Int} {i : Nat} (h : i < l.length) : (l ++ z).getD i default = l.getD i default := by
  rw [List.getD_eq_getElem?_getD, List.getD_eq_getElem?_getD, List.getElem?_append_left h]

theorem IndexFunc0_spec (g : Nat) (cs : List DV) : Spec X 109 [] [.c (.d .nilsl), .c (.d (.fn g [] cs))] (Ret [] (.int (-1))) := by
  refine spec_go X_ok Tryz.f109 (by kernel_rfl) (by kernel_rfl) (by kernel_rfl) fun hb hH => ⟨rfl, ?_⟩
  show ∃ n, _
  refine ⟨1, ?_⟩
  show ALoop _ _ _ _
  refine .next ?_
  show ABr _ _ _
  refine ⟨fun h => absurd h (by decide), fun _ => ?_⟩
  show ARet _ _ _
  exact ret_d rfl ⟨rfl, rfl⟩

/-! A collector's, and a heap's, own. -/
theorem CloneIntsOwnZ_spec (l : List Int) (h : l.length ≤ most) : Spec X 46 [] [.c (.d (.sl .int l))] (Ret [(0, .data .int l)] (.c (.own 0))) := by
  refine spec_go X_ok Tryz.f46 (by kernel_rfl) (by kernel_rfl) (by kernel_rfl) fun hb _ => ⟨rfl, ?_⟩
  intro b (hnil : b = true → l = [])
  show ABr _ _ _
  refine ⟨fun hb => ?_, fun hb => ?_⟩
  · have hl := hnil hb
    subst hl
    show ARet _ _ _
    exact ⟨[], [(0, .data .int [])], [.c (.own 0)], .cons _ _ _ _ (.c _ _ (.nilown 0 .int rfl rfl)) .nil, .new 0 .int _ rfl .nil, rfl, rfl, rfl⟩
  show AOb (0 + l.length ≤ most) _
  refine ⟨by omega, ?_⟩
  show ARet _ _ _
  exact ⟨[(_, 0)], [(0, .data .int l)], [.c (.own 0)], .cons _ _ _ _ (.c _ _ (.own1 _ _)) .nil, .old 0 _ _ _ _ rfl rfl (.data_eq rfl) .nil, rfl, rfl, rfl⟩

def Col.own (c : Col) : TV := .agg [.d (DV.int c.phase), .d (DV.int c.epoch), .d (DV.bo c.major), .own 0, .d (DV.bo c.over), .d (DV.int c.at_), .d (DV.int c.field_), .d (DV.int c.seek), .d (DV.int c.card), .d (DV.bo c.met)]

theorem cown_spec (c : Col) (h : c.work.length ≤ most) : Spec X 50 [] [c.tv] (Ret [(0, .data .int c.work)] c.own) := by
  refine spec_go X_ok Tryz.f50 (by kernel_rfl) (by kernel_rfl) (by kernel_rfl) fun hb hH => ⟨rfl, ?_⟩
  show ACall _ _ _ _ _ _
  refine .mk _ (CloneIntsOwnZ_spec c.work h) fun H r hq _ _ => ?_
  obtain ⟨rfl, rfl⟩ := hq
  refine ⟨.inl rfl, ?_⟩
  show ARet _ _ _
  exact ⟨[(_, 0)], [(0, .data .int c.work)], [c.own], .cons _ _ _ _ (.agg _ _ (.cons _ _ _ _ (.d _) (.cons _ _ _ _ (.d _) (.cons _ _ _ _ (.d _) (.cons _ _ _ _ (.own1 _ _) (.cons _ _ _ _ (.d _) (.cons _ _ _ _ (.d _) (.cons _ _ _ _ (.d _) (.cons _ _ _ _ (.d _) (.cons _ _ _ _ (.d _) (.cons _ _ _ _ (.d _) .nil))))))))))) .nil, .old 0 _ _ _ _ rfl rfl (.data_eq rfl) .nil, rfl, rfl, rfl⟩

def Hp.small (g : Hp) : Prop := g.w.length ≤ most ∧ g.pages.length ≤ most ∧ g.cards.length ≤ most ∧ g.free.l0.length ≤ most ∧ g.free.l1.length ≤ most ∧ g.free.l2.length ≤ most

theorem copied_spec (g : Hp) (hs : g.small) : Spec X 51 [] [g.tv] (Ret [] g.tv) := by
  refine spec_go X_ok Tryz.f51 (by kernel_rfl) (by kernel_rfl) (by kernel_rfl) fun hb hH => ⟨rfl, ?_⟩
  obtain ⟨h1, h2, h3, h4, h5, h6⟩ := hs
  show ADCall _ _ _ _ _ _
  refine .mk _ _ (CloneInts_spec g.w h1) rfl ?_
  show ADCall _ _ _ _ _ _
  refine .mk _ _ (ClonePages_spec g.pages h2) rfl ?_
  show ADCall _ _ _ _ _ _
  refine .mk _ _ (CloneBools_spec g.cards h3) rfl ?_
  show ∃ n, _
  refine ⟨4, ?_⟩
  show ALoop _ _ _ _
  refine .next ?_
  show ABr _ _ _
  refine ⟨fun _ => ?_, fun h => absurd h (by decide)⟩
  show AOb _ _
  refine ⟨by decide, ?_⟩
  show ACall _ _ _ _ _ _
  refine call_ret (CloneInts_spec g.free.l0 h4) rfl ?_
  show AOb _ _
  refine ⟨by decide, ?_⟩
  show ALoop _ _ _ _
  refine .next ?_
  show ABr _ _ _
  refine ⟨fun _ => ?_, fun h => absurd h (by decide)⟩
  show AOb _ _
  refine ⟨by decide, ?_⟩
  show ACall _ _ _ _ _ _
  refine call_ret (CloneInts_spec g.free.l1 h5) rfl ?_
  show AOb _ _
  refine ⟨by decide, ?_⟩
  show ALoop _ _ _ _
  refine .next ?_
  show ABr _ _ _
  refine ⟨fun _ => ?_, fun h => absurd h (by decide)⟩
  show AOb _ _
  refine ⟨by decide, ?_⟩
  show ACall _ _ _ _ _ _
  refine call_ret (CloneInts_spec g.free.l2 h6) rfl ?_
  show AOb _ _
  refine ⟨by decide, ?_⟩
  show ALoop _ _ _ _
  refine .next ?_
  show ABr _ _ _
  refine ⟨fun h => absurd h (by decide), fun _ => ?_⟩
  show ARet _ _ _
  exact ret_d rfl ⟨rfl, rfl⟩

/-! Shading; making black. -/
def markH (g : Hp) (c : Col) (a : Int) : Hd := { headH g a with mark := c.epoch, done := false }
def shadeG (g : Hp) (c : Col) (a : Int) : Hp := bif decide (atK g c a = 1) then setH g a (markH g c a) else g
def shadeC (g : Hp) (c : Col) (a : Int) : Col := bif decide (atK g c a = 1) then (bif decide ((c.work.length : Int) < 4) then { c with work := c.work ++ [a] } else { c with over := true }) else c
def doneH (g : Hp) (a : Int) : Hd := { headH g a with done := true }
def blackG (g : Hp) (c : Col) (a : Int) : Hp := bif decide (atK g c a = 2) then setH g a (doneH g a) else g

theorem Shade_spec (g : Hp) (c : Col) (a : Int) (hl : g.light) (hs : g.small) (hw : c.work.length < most) : Spec X 30 [] [g.tv, c.tv, .int a] (Ret [] (.tup [(shadeG g c a).tv, (shadeC g c a).tv])) := by
  refine spec_go X_ok Tryz.f30 (by kernel_rfl) (by kernel_rfl) (by kernel_rfl) fun hb hH => ⟨rfl, ?_⟩
  show ACall _ _ _ _ _ _
  refine call_ret (at_spec g c a hl) rfl ?_
  show ACall _ _ _ _ _ _
  refine .mk _ (cown_spec c (by omega)) fun H r hq _ _ => ?_
  obtain ⟨rfl, rfl⟩ := hq
  refine ⟨.inl rfl, ?_⟩
  show ABr (atK g c a != 1) _ _
  refine ⟨fun h => ?_, fun h => ?_⟩
  · have hk : atK g c a ≠ 1 := by simpa using h
    have e1 : shadeG g c a = g := by unfold shadeG; rw [decide_eq_false hk]; rfl
    have e2 : shadeC g c a = c := by unfold shadeC; rw [decide_eq_false hk]; rfl
    rw [e1, e2]
    show ADCall _ _ _ _ _ _
    refine .mk _ _ (copied_spec g hs) rfl ?_
    show ARet _ _ _
    exact ⟨[], [], _, .cons _ _ _ _ (.agg _ _ (.cons _ _ _ _ (.d _) (.cons _ _ _ _ (.d _) (.cons _ _ _ _ (.d _) (.cons _ _ _ _ (.d _) (.cons _ _ _ _ (.d _) (.cons _ _ _ _ (.d _) .nil))))))) (.cons _ _ _ _ (.agg _ _ (.cons _ _ _ _ (.d _) (.cons _ _ _ _ (.d _) (.cons _ _ _ _ (.d _) (.cons _ _ _ _ (.frz_eq (k := .int) (l := c.work) rfl rfl) (.cons _ _ _ _ (.d _) (.cons _ _ _ _ (.d _) (.cons _ _ _ _ (.d _) (.cons _ _ _ _ (.d _) (.cons _ _ _ _ (.d _) (.cons _ _ _ _ (.d _) .nil))))))))))) .nil), .nil, rfl, rfl, rfl⟩
  · have hk : atK g c a = 1 := by simpa using h
    have e1 : shadeG g c a = setH g a (markH g c a) := by unfold shadeG; rw [decide_eq_true hk]; rfl
    have e2 : shadeC g c a = (bif decide ((c.work.length : Int) < 4) then { c with work := c.work ++ [a] } else { c with over := true }) := by unfold shadeC; rw [decide_eq_true hk]; rfl
    rw [e1, e2]
    show ACall _ _ _ _ _ _
    refine call_ret (hSet_spec g a (markH g c a) hl) rfl ?_
    show ABr (decide ((c.work.length : Int) < 4)) _ _
    refine ⟨fun h => ?_, fun h => ?_⟩
    · rw [h]
      show AOb (c.work.length + 1 ≤ most) _
      refine ⟨by omega, ?_⟩
      show ARet _ _ _
      exact ⟨[], [], _, .cons _ _ _ _ (.agg _ _ (.cons _ _ _ _ (.d _) (.cons _ _ _ _ (.d _) (.cons _ _ _ _ (.d _) (.cons _ _ _ _ (.d _) (.cons _ _ _ _ (.d _) (.cons _ _ _ _ (.d _) .nil))))))) (.cons _ _ _ _ (.agg _ _ (.cons _ _ _ _ (.d _) (.cons _ _ _ _ (.d _) (.cons _ _ _ _ (.d _) (.cons _ _ _ _ (.frz_eq (k := .int) (l := c.work ++ [a]) rfl rfl) (.cons _ _ _ _ (.d _) (.cons _ _ _ _ (.d _) (.cons _ _ _ _ (.d _) (.cons _ _ _ _ (.d _) (.cons _ _ _ _ (.d _) (.cons _ _ _ _ (.d _) .nil))))))))))) .nil), .nil, rfl, rfl, rfl⟩
    · rw [h]
      show ARet _ _ _
      exact ⟨[], [], _, .cons _ _ _ _ (.agg _ _ (.cons _ _ _ _ (.d _) (.cons _ _ _ _ (.d _) (.cons _ _ _ _ (.d _) (.cons _ _ _ _ (.d _) (.cons _ _ _ _ (.d _) (.cons _ _ _ _ (.d _) .nil))))))) (.cons _ _ _ _ (.agg _ _ (.cons _ _ _ _ (.d _) (.cons _ _ _ _ (.d _) (.cons _ _ _ _ (.d _) (.cons _ _ _ _ (.frz_eq (k := .int) (l := c.work) rfl rfl) (.cons _ _ _ _ (.d _) (.cons _ _ _ _ (.d _) (.cons _ _ _ _ (.d _) (.cons _ _ _ _ (.d _) (.cons _ _ _ _ (.d _) (.cons _ _ _ _ (.d _) .nil))))))))))) .nil), .nil, rfl, rfl, rfl⟩

end Go.Abs
