/- Walks: a step of going through what is grey. -/
import Derived.Test.YtfoeojkifbmddaaGreatDoorWTraceK
set_option linter.all false
set_option linter.unusedVariables false
set_option linter.unusedSimpArgs false
namespace Go.Abs
open Go.Proofs Go.Proofs.YtfoeojkifbmddaaGreatDoor
set_option maxRecDepth 8000

theorem Marks.light {g k : Hp} (h : Marks g k) (hl : g.light) : k.light := by unfold Hp.light; rw [h.free]; exact hl
theorem Marks.small {g k : Hp} (h : Marks g k) (hs : g.small) : k.small := by unfold Hp.small; rw [h.free, h.pages, h.cards, h.len]; exact hs

theorem part1_spec (w : List Int) (a : Int) (hw : mayW w = true) (ha : 16 ≤ a ∧ a < 16 + w.length) : Spec X 100 [] [.c (.d (.sl .int w)), .int a, .int 1] (Ret [] (.tup [.c (.d (.sl .int ((w.drop (a - 16).toNat).take 1))), .int 0])) := by
  refine spec_go X_ok Tryz.f100 (by kernel_rfl) (by kernel_rfl) (by kernel_rfl) fun hb hH => ⟨rfl, ?_⟩
  show ACall _ _ _ _ _ _
  refine call_ret (aMay_spec w) rfl ?_
  rw [hw]
  show ABr (!true) _ _
  show ABr _ _ _
  refine ⟨fun h => absurd h (by decide), fun _ => ?_⟩
  show ABr _ _ _
  refine ⟨fun h => absurd h (by decide), fun _ => ?_⟩
  have h1 : w.length ≤ 1024 := by have := of_decide_eq_true hw; omega
  have e1 : IntKind.i64.wrap (a - 16) = a - 16 := wrap64 (by omega) (by omega)
  have e2 : IntKind.i64.wrap ((w.length : Int) - (a - 16)) = w.length - (a - 16) := wrap64 (by omega) (by omega)
  show ABr (bif decide ((1 : Int) > 0) then (bif (bif decide (a < 16) then true else decide (IntKind.i64.wrap (a - 16) ≥ (w.length : Int))) then true else decide ((1 : Int) > IntKind.i64.wrap ((w.length : Int) - IntKind.i64.wrap (a - 16)))) else false) _ _
  rw [e1, e2]
  refine ⟨fun h => ?_, fun _ => ?_⟩
  · exfalso
    have g1 : decide (a < 16) = false := decide_eq_false (by omega)
    have g2 : decide (a - 16 ≥ (w.length : Int)) = false := decide_eq_false (by omega)
    have g3 : decide ((1 : Int) > (w.length : Int) - (a - 16)) = false := decide_eq_false (by omega)
    rw [g1, g2, g3] at h
    exact absurd h (by decide)
  · show ABr _ _ _
    refine ⟨fun h => absurd h (by decide), fun _ => ?_⟩
    show AOb ((0 : Int) ≤ IntKind.i64.wrap (a - 16) ∧ IntKind.i64.wrap (a - 16) ≤ (w.length : Int)) _
    rw [e1]
    refine ⟨by omega, ?_⟩
    have hdl : (w.drop (a - 16).toNat).length = w.length - (a - 16).toNat := List.length_drop
    show AOb ((0 : Int) ≤ 1 ∧ (1 : Int) ≤ 1 ∧ (1 : Int) ≤ (((w.drop (a - 16).toNat).length : Nat) : Int)) _
    refine ⟨by omega, ?_⟩
    show ARet _ _ _
    exact ret_d rfl ⟨rfl, rfl⟩

theorem aGet_spec (w : List Int) (a : Int) (hw : mayW w = true) (ha : 16 ≤ a ∧ a < 16 + w.length) : Spec X 75 [] [.c (.d (.sl .int w)), .int a] (Ret [] (.tup [.int (at0 w (a - 16).toNat), .int 0])) := by
  refine spec_go X_ok Tryz.f75 (by kernel_rfl) (by kernel_rfl) (by kernel_rfl) fun hb hH => ⟨rfl, ?_⟩
  show ACall _ _ _ _ _ _
  refine call_ret (part1_spec w a hw ha) rfl ?_
  have hdl : ((w.drop (a - 16).toNat).take 1).length = 1 := by rw [List.length_take, List.length_drop]; omega
  show ABr _ _ _
  refine ⟨fun h => absurd h (by decide), fun _ => ?_⟩
  show AOb ((0 : Int) ≤ 0 ∧ (0 : Int) < ((((w.drop (a - 16).toNat).take 1).length : Nat) : Int)) _
  refine ⟨by omega, ?_⟩
  have hv : ((w.drop (a - 16).toNat).take 1).getD 0 default = at0 w (a - 16).toNat := by
    unfold at0
    simp [List.getD_eq_getElem?_getD]
  show ARet _ _ _
  exact ⟨[], [], [.int (at0 w (a - 16).toNat), .int 0], .cons _ _ _ _ (.int_eq hv) (.cons _ _ _ _ .same .nil), .nil, rfl, rfl, rfl⟩

theorem town_spec (g : Hp) (c : Col) (hs : g.small) (hw : c.work.length ≤ most) : Spec X 37 [] [g.tv, c.tv] (Ret [] (.tup [g.tv, c.tv])) := by
  refine spec_go X_ok Tryz.f37 (by kernel_rfl) (by kernel_rfl) (by kernel_rfl) fun hb hH => ⟨rfl, ?_⟩
  obtain ⟨h1, h2, h3, h4, h5, h6⟩ := hs
  show ADCall _ _ _ _ _ _
  refine .mk _ _ (CloneInts_spec g.w h1) rfl ?_
  show ADCall _ _ _ _ _ _
  refine .mk _ _ (ClonePages_spec g.pages h2) rfl ?_
  show ADCall _ _ _ _ _ _
  refine .mk _ _ (CloneBools_spec g.cards h3) rfl ?_
  show ∃ n, _
  refine ⟨4, ?_⟩
  show ALoop _ _ _ _
  refine .next ?_
  show ABr _ _ _
  refine ⟨fun _ => ?_, fun h => absurd h (by decide)⟩
  show AOb _ _
  refine ⟨by decide, ?_⟩
  show ACall _ _ _ _ _ _
  refine call_ret (CloneInts_spec g.free.l0 h4) rfl ?_
  show AOb _ _
  refine ⟨by decide, ?_⟩
  show ALoop _ _ _ _
  refine .next ?_
  show ABr _ _ _
  refine ⟨fun _ => ?_, fun h => absurd h (by decide)⟩
  show AOb _ _
  refine ⟨by decide, ?_⟩
  show ACall _ _ _ _ _ _
  refine call_ret (CloneInts_spec g.free.l1 h5) rfl ?_
  show AOb _ _
  refine ⟨by decide, ?_⟩
  show ALoop _ _ _ _
  refine .next ?_
  show ABr _ _ _
  refine ⟨fun _ => ?_, fun h => absurd h (by decide)⟩
  show AOb _ _
  refine ⟨by decide, ?_⟩
  show ACall _ _ _ _ _ _
  refine call_ret (CloneInts_spec g.free.l2 h6) rfl ?_
  show AOb _ _
  refine ⟨by decide, ?_⟩
  show ALoop _ _ _ _
  refine .next ?_
  show ABr _ _ _
  refine ⟨fun h => absurd h (by decide), fun _ => ?_⟩
  show ACall _ _ _ _ _ _
  refine call_ret (CloneInts_spec c.work hw) rfl ?_
  show ARet _ _ _
  exact ret_d rfl ⟨rfl, rfl⟩

theorem tgrey_spec (g : Hp) (c : Col) (a : Int) (hl : g.light) (hs : g.small) : Spec X 40 [] [g.tv, c.tv, .int a] (Ret [] (.int (greyN g c a))) := by
  refine spec_go X_ok Tryz.f40 (by kernel_rfl) (by kernel_rfl) (by kernel_rfl) fun hb hH => ⟨rfl, ?_⟩
  unfold greyN
  show ACall _ _ _ _ _ _
  refine call_ret (shBlack_spec g c a hl hs) rfl ?_
  show ABr (!decide (atK g c a = 2)) _ _
  refine ⟨fun h => ?_, fun h => ?_⟩
  · have h : ¬ atK g c a = 2 := by simpa using h
    rw [if_neg h]
    show ARet _ _ _
    exact ret_d rfl ⟨rfl, rfl⟩
  · have h : atK g c a = 2 := by simpa using h
    rw [if_pos h]
    show ACall _ _ _ _ _ _
    refine call_ret (hHead_spec g a hl) rfl ?_
    show ARet _ _ _
    exact ret_d rfl ⟨rfl, rfl⟩

theorem place_ahead_spec (a : Int) (x : Int × Int) : Spec X 77 [] [.int a, .agg [.d (DV.int x.1), .d (DV.int x.2)]] (Ret [] (.bo (decide (a < x.1)))) := by
  refine spec_go X_ok Tryz.f77 (by kernel_rfl) (by kernel_rfl) (by kernel_rfl) fun hb hH => ⟨rfl, ?_⟩
  show ARet _ _ _
  exact ret_bo rfl ⟨rfl, rfl⟩

def nextB (l : List Page) (a : Int) : Bool := ((cellStarts l).find? fun s => decide (a < s)).isSome
theorem nextS_find (l : List Page) (a : Int) : (cellStarts l).find? (fun s => decide (a < s)) = ((cellsAll l).find? fun x => decide (a < x.1)).map (·.1) := by
  unfold cellStarts
  rw [List.find?_map]
  rfl

theorem nextC_spec (l : List Page) (a : Int) : Spec X 39 [] [.c (.d (.sl .page l)), .int a] (Ret [] (.tup [.int (nextS l a), .bo (nextB l a)])) := by
  refine spec_go X_ok Tryz.f39 (by kernel_rfl) (by kernel_rfl) (by kernel_rfl) fun hb hH => ⟨rfl, ?_⟩
  unfold nextS nextB
  rw [nextS_find]
  cases h : (cellsAll l).find? fun x => decide (a < x.1) with
  | none =>
    show ACall _ _ _ _ _ _
    refine call_ret (firstCN (place_ahead_spec a) h) rfl ?_
    show ARet _ _ _
    exact ret_d rfl ⟨rfl, rfl⟩
  | some x =>
    show ACall _ _ _ _ _ _
    refine call_ret (firstCN (place_ahead_spec a) h) rfl ?_
    show ARet _ _ _
    exact ret_d rfl ⟨rfl, rfl⟩

theorem blackG_col {c d : Col} (h1 : d.epoch = c.epoch) (h2 : d.major = c.major) (g : Hp) (a : Int) : blackG g d a = blackG g c a := by unfold blackG; rw [atK_col h1 h2]
theorem greyN_col {c d : Col} (h1 : d.epoch = c.epoch) (h2 : d.major = c.major) (g : Hp) (a : Int) : greyN g d a = greyN g c a := by unfold greyN; rw [atK_col h1 h2]

set_option maxHeartbeats 2000000 in
theorem tfield_spec (g : Hp) (c : Col) (hl : g.light) (hs : g.small) (hk : c.work.length < most) : Spec X 38 [] [g.tv, c.tv] (Ret [] (.tup [(fieldS g c).1.tv, (fieldS g c).2.tv])) := by
  refine spec_go X_ok Tryz.f38 (by kernel_rfl) (by kernel_rfl) (by kernel_rfl) fun hb hH => ⟨rfl, ?_⟩
  show ADCall _ _ _ _ _ _
  refine .mk _ _ (tgrey_spec g c c.at_ hl hs) rfl ?_
  unfold fieldS
  show ABr (bif decide (c.field_ < 0) then true else decide (c.field_ ≥ greyN g c c.at_)) _ _
  by_cases hf : c.field_ < 0 ∨ greyN g c c.at_ ≤ c.field_
  · rw [if_pos hf]
    have hc : (bif decide (c.field_ < 0) then true else decide (c.field_ ≥ greyN g c c.at_)) = true := by
      rcases hf with h | h <;> simp [h]
    rw [hc]
    show ABr _ _ _
    refine ⟨fun _ => ?_, fun h => absurd h (by decide)⟩
    show ARet _ _ _
    exact ret_d rfl ⟨rfl, rfl⟩
  · rw [if_neg hf]
    have hc : (bif decide (c.field_ < 0) then true else decide (c.field_ ≥ greyN g c c.at_)) = false := by
      simp; omega
    rw [hc]
    show ABr _ _ _
    refine ⟨fun h => absurd h (by decide), fun _ => ?_⟩
    have h0 : 0 ≤ c.field_ := by omega
    have hlt : c.field_ < greyN g c c.at_ := by omega
    have hg2 : atK g c c.at_ = 2 := greyN_pos.1 (by omega)
    have hE := (grey_adr hg2).1
    have hn : greyN g c c.at_ = (headH g c.at_).n := if_pos hg2
    obtain ⟨hm, _, _⟩ := headE_of hE
    obtain ⟨hmw, _, hlen, _, _, h64⟩ := shapedH_of (mayH_shaped hm)
    obtain ⟨⟨a1, a2⟩, _⟩ := field_adr (f := c.field_ + 1) hE (by omega) (by omega)
    have ha16 := (grey_adr hg2).2.2
    have w1 : IntKind.i64.wrap (c.at_ + 1) = c.at_ + 1 := wrap64 (by omega) (by omega)
    have w2 : IntKind.i64.wrap (c.at_ + 1 + c.field_) = c.at_ + 1 + c.field_ := wrap64 (by omega) (by omega)
    have w3 : IntKind.i64.wrap (c.field_ + 1) = c.field_ + 1 := wrap64 (by omega) (by omega)
    have hv : at0 g.w (IntKind.i64.wrap (IntKind.i64.wrap (c.at_ + 1) + c.field_) - 16).toNat = wordOf g (c.at_ + 1 + c.field_) := by
      rw [w1, w2]
      unfold wordOf wordAt
      rw [if_pos ⟨hmw, by omega, by omega⟩]
    generalize wordOf g (c.at_ + 1 + c.field_) = v at hv
    show ACall _ _ _ _ _ _
    refine call_ret (aGet_spec g.w (IntKind.i64.wrap (IntKind.i64.wrap (c.at_ + 1) + c.field_)) hmw (by rw [w1, w2]; omega)) rfl ?_
    rw [hv]
    show ACall _ _ _ _ _ _
    refine call_ret (Shade_spec g c v hl hs hk) rfl ?_
    have sm := shadeC_same g c v
    have ef : IntKind.i64.wrap ((shadeC g c v).field_ + 1) = c.field_ + 1 := by rw [sm.field_, w3]
    show ABr (decide (IntKind.i64.wrap ((shadeC g c v).field_ + 1) = greyN g c c.at_)) _ _
    rw [ef]
    by_cases hl2 : c.field_ + 1 = greyN g c c.at_
    · rw [if_pos hl2, decide_eq_true hl2]
      show ABr _ _ _
      refine ⟨fun _ => ?_, fun h => absurd h (by decide)⟩
      have hMs := shade_marks g c v
      show ACall _ _ _ _ _ _
      refine call_ret (shBlack_spec (shadeG g c v) { shadeC g c v with field_ := c.field_ + 1 } c.at_ (hMs.light hl) (hMs.small hs)) rfl ?_
      rw [blackG_col (c := c) (d := { shadeC g c v with field_ := c.field_ + 1 }) sm.epoch sm.major]
      show ARet _ _ _
      exact ret_d rfl ⟨rfl, rfl⟩
    · rw [if_neg hl2, decide_eq_false hl2]
      show ABr _ _ _
      refine ⟨fun h => absurd h (by decide), fun _ => ?_⟩
      show ARet _ _ _
      exact ret_d rfl ⟨rfl, rfl⟩

theorem lastW {n : Nat} (h : n < most) : IntKind.i64.wrap ((n : Int) - 1) = (n : Int) - 1 := wrap64 (by omega) (by unfold most at h; omega)

set_option maxHeartbeats 2000000 in
theorem tStep_spec (g : Hp) (c : Col) (hl : g.light) (hs : g.small) (hk : c.work.length < most) : Spec X 12 [] [g.tv, c.tv] (Ret [] (.tup [(traceS g c).1.tv, (traceS g c).2.tv])) := by
  refine spec_go X_ok Tryz.f12 (by kernel_rfl) (by kernel_rfl) (by kernel_rfl) fun hb hH => ⟨rfl, ?_⟩
  have hlw := lastW hk
  show ACall _ _ _ _ _ _
  refine call_ret (hHMay0_spec g hl) rfl ?_
  show ACall _ _ _ _ _ _
  refine call_ret (town_spec g c hs (Nat.le_of_lt hk)) rfl ?_
  unfold traceS
  show ABr (!mayH g []) _ _
  refine ⟨fun h => ?_, fun h => ?_⟩
  · have hm : mayH g [] = false := by simpa using h
    rw [if_neg (fun k => by rw [hm] at k; exact Bool.false_ne_true k.1)]
    show ABr _ _ _
    refine ⟨fun _ => ?_, fun h => absurd h (by simp [hm])⟩
    show ARet _ _ _
    exact ret_d rfl ⟨rfl, rfl⟩
  · have hm : mayH g [] = true := by simpa using h
    show ABr (!decide (c.phase = 5)) _ _
    refine ⟨fun h => ?_, fun h => ?_⟩
    · have hp : c.phase ≠ 5 := by simpa using h
      rw [if_neg (fun k => hp k.2)]
      show ARet _ _ _
      exact ret_d rfl ⟨rfl, rfl⟩
    · have hp : c.phase = 5 := by simpa using h
      rw [if_pos ⟨hm, hp⟩]
      show ABr (!decide (c.at_ = 0)) _ _
      refine ⟨fun h => ?_, fun h => ?_⟩
      · have ha : c.at_ ≠ 0 := by simpa using h
        rw [if_pos ha]
        show ACall _ _ _ _ _ _
        refine call_ret (tfield_spec g c hl hs hk) rfl ?_
        show ARet _ _ _
        exact ret_d rfl ⟨rfl, rfl⟩
      · have ha : c.at_ = 0 := by simpa using h
        rw [if_neg (fun k => k ha)]
        show ABr (decide (IntKind.i64.wrap ((c.work.length : Int) - 1) ≥ 0)) _ _
        by_cases hw : 0 < c.work.length
        · rw [if_pos hw, decide_eq_true (show IntKind.i64.wrap ((c.work.length : Int) - 1) ≥ 0 by rw [hlw]; omega)]
          show ABr _ _ _
          refine ⟨fun _ => ?_, fun h => absurd h (by decide)⟩
          have e3 : c.work.length - 1 = (IntKind.i64.wrap ((c.work.length : Int) - 1)).toNat := by rw [hlw]; omega
          show AOb ((0 : Int) ≤ IntKind.i64.wrap ((c.work.length : Int) - 1) ∧ IntKind.i64.wrap ((c.work.length : Int) - 1) < (c.work.length : Int)) _
          refine ⟨by rw [hlw]; omega, ?_⟩
          show AOb ((0 : Int) ≤ IntKind.i64.wrap ((c.work.length : Int) - 1) ∧ IntKind.i64.wrap ((c.work.length : Int) - 1) ≤ (c.work.length : Int)) _
          refine ⟨by rw [hlw]; omega, ?_⟩
          rw [e3]
          show ARet _ _ _
          exact ret_d rfl ⟨rfl, rfl⟩
        · rw [if_neg hw, decide_eq_false (show ¬ IntKind.i64.wrap ((c.work.length : Int) - 1) ≥ 0 by rw [hlw]; omega)]
          show ABr _ _ _
          refine ⟨fun h => absurd h (by decide), fun _ => ?_⟩
          show ABr (!decide (c.seek = 0)) _ _
          refine ⟨fun h => ?_, fun h => ?_⟩
          · have hsk : c.seek ≠ 0 := by simpa using h
            rw [if_pos hsk]
            show ACall _ _ _ _ _ _
            refine call_ret (nextC_spec g.pages c.seek) rfl ?_
            show ACall _ _ _ _ _ _
            refine call_ret (tgrey_spec g { c with seek := nextS g.pages c.seek } (nextS g.pages c.seek) hl hs) rfl ?_
            rw [greyN_col (c := c) (d := { c with seek := nextS g.pages c.seek }) rfl rfl]
            show ABr (decide (greyN g c (nextS g.pages c.seek) = 0)) _ _
            refine ⟨fun h => ?_, fun h => ?_⟩
            · rw [if_pos (of_decide_eq_true h)]
              show ARet _ _ _
              exact ret_d rfl ⟨rfl, rfl⟩
            · rw [if_neg (of_decide_eq_false h)]
              show ARet _ _ _
              exact ret_d rfl ⟨rfl, rfl⟩
          · have hsk : c.seek = 0 := by simpa using h
            rw [if_neg (fun k => k hsk)]
            show ABr (c.over) _ _
            refine ⟨fun h => ?_, fun h => ?_⟩
            · rw [if_pos h]
              show ARet _ _ _
              exact ret_d rfl ⟨rfl, rfl⟩
            · rw [if_neg (fun k => by rw [h] at k; cases k)]
              show ARet _ _ _
              exact ret_d rfl ⟨rfl, rfl⟩
end Go.Abs
