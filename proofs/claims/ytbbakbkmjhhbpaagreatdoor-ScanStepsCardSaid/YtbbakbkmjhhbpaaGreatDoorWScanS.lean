/- Walks: the document's step of going through cards. -/
import Derived.Test.YtbbakbkmjhhbpaaGreatDoorWScanC
set_option linter.all false
set_option linter.unusedVariables false
set_option linter.unusedSimpArgs false
namespace Go.Abs
open Go.Proofs Go.Proofs.YtbbakbkmjhhbpaaGreatDoor
set_option maxRecDepth 8000

/-- A heap whose cards are a row of one's own. -/
def Hp.cown (g : Hp) : TV := .agg [.d (.sl .int g.w), .d (.sl .page g.pages), .d (.sl .int g.free.l0), .d (.sl .int g.free.l1), .d (.sl .int g.free.l2), .own 0]

theorem rOwn7c_spec (g : Hp) (hs : g.small) : Spec X 11 [] [g.tv] (Ret [(0, .data .bool g.cards)] g.cown) := by
  refine spec_go X_ok Tryz.f11 (by kernel_rfl) (by kernel_rfl) (by kernel_rfl) fun hb hH => ⟨rfl, ?_⟩
  obtain ⟨h1, h2, h3, h4, h5, h6⟩ := hs
  show ACall _ _ _ _ _ _
  refine call_ret (rOwn_spec g.free ⟨h4, h5, h6⟩) rfl ?_
  show AOb (g.w.length ≤ most) _
  refine ⟨h1, ?_⟩
  show AOb (g.pages.length ≤ most) _
  refine ⟨h2, ?_⟩
  show AOb (g.cards.length ≤ most) _
  refine ⟨h3, ?_⟩
  show ARet _ _ _
  exact ⟨[(864, 0)], [(0, .data .bool g.cards)], [g.cown], .cons _ _ _ _ (.agg _ _ (.cons _ _ _ _ (.frz_eq (k := .int) (l := g.w) rfl rfl) (.cons _ _ _ _ (.frz_eq (k := .page) (l := g.pages) rfl rfl) (.cons _ _ _ _ (.d _) (.cons _ _ _ _ (.d _) (.cons _ _ _ _ (.d _) (.cons _ _ _ _ (.own _ _ rfl) .nil))))))) .nil, .old 0 864 _ _ _ rfl rfl (.data_eq rfl) .nil, rfl, rfl, rfl⟩


set_option maxRecDepth 60000 in
set_option maxHeartbeats 4000000 in
theorem rScan_spec (g : Hp) (c : Col) (hl : g.light) (hs : g.small) (hw : ∀ x ∈ g.w, I64 x) (hk : c.work.length < most) : Spec X 13 [] [g.tv, c.tv] (Ret [] (.tup [(scanS g c).1.tv, (scanS g c).2.tv])) := by
  refine spec_go X_ok Tryz.f13 (by kernel_rfl) (by kernel_rfl) (by kernel_rfl) fun hb hH => ⟨rfl, ?_⟩
  show ACall _ _ _ _ _ _
  refine .mk _ (rOwn7c_spec g hs) fun H r ⟨eH, er⟩ _ _ => ⟨.inl rfl, ?_⟩
  subst eH er
  show ACall _ _ _ _ _ _
  refine call_ret (rcOwnf_spec c (Nat.le_of_lt hk)) rfl ?_
  show ACall _ _ _ _ _ _
  refine call_ret (rMay70_spec g hl hw) rfl ?_
  show ABr (bif (bif !mayH g [] then true else !decide (c.phase = 4)) then true else decide (c.card < 0)) _ _
  unfold scanS
  by_cases hx : mayH g [] = true ∧ c.phase = 4 ∧ 0 ≤ c.card
  · obtain ⟨hm, hp, h0⟩ := hx
    have hc0 : (bif (bif !mayH g [] then true else !decide (c.phase = 4)) then true else decide (c.card < 0)) = false := by rw [hm, decide_eq_true hp, decide_eq_false (by omega)]; rfl
    refine ⟨fun h => absurd (hc0.symm.trans h) (by decide), fun _ => ?_⟩
    rw [if_pos ⟨hm, hp, h0⟩]
    show ABr (decide (c.card ≥ (g.cards.length : Int))) _ _
    by_cases hc : (g.cards.length : Int) ≤ c.card
    · rw [if_pos hc, decide_eq_true (show c.card ≥ (g.cards.length : Int) from hc)]
      show ABr _ _ _
      refine ⟨fun _ => ?_, fun h => absurd h (by decide)⟩
      show ARet _ _ _
      exact ⟨[], [], _, .cons _ _ _ _ (.agg _ _ (.cons _ _ _ _ (.d _) (.cons _ _ _ _ (.d _) (.cons _ _ _ _ (.d _) (.cons _ _ _ _ (.d _) (.cons _ _ _ _ (.d _) (.cons _ _ _ _ (.frz_eq (k := .bool) (l := g.cards) rfl rfl) .nil))))))) (.cons _ _ _ _ (.agg _ _ (by repeat' first | exact .nil | refine .cons _ _ _ _ ?_ ?_ | exact .d _ | exact .int_eq rfl)) .nil), .nil, rfl, rfl, rfl⟩
    · rw [if_neg hc, decide_eq_false (show ¬ c.card ≥ (g.cards.length : Int) from hc)]
      show ABr _ _ _
      refine ⟨fun h => absurd h (by decide), fun _ => ?_⟩
      have hc : c.card < (g.cards.length : Int) := by omega
      have wc := card64 hm h0 hc
      by_cases hsk : c.seek = 0
      · show ABr (decide (c.seek = 0)) _ _
        rw [if_pos hsk, decide_eq_true hsk]
        show ABr _ _ _
        refine ⟨fun _ => ?_, fun h => absurd h (by decide)⟩
        unfold scanB
        show AOb ((0 : Int) ≤ c.card ∧ c.card < (g.cards.length : Int)) _
        refine ⟨⟨h0, hc⟩, ?_⟩
        show ABr (g.cards.getD c.card.toNat false) _ _
        cases hd : g.cards.getD c.card.toNat false with
        | true =>
          rw [if_pos rfl]
          show ABr _ _ _
          refine ⟨fun _ => ?_, fun h => absurd h (by decide)⟩
          show AOb ((0 : Int) ≤ c.card ∧ c.card < (g.cards.length : Int)) _
          refine ⟨⟨h0, hc⟩, ?_⟩
          show AOb (c.card.toNat < g.cards.length) _
          refine ⟨by omega, ?_⟩
          show ARet _ _ _
          exact ⟨[], [], _, .cons _ _ _ _ (.agg _ _ (.cons _ _ _ _ (.d _) (.cons _ _ _ _ (.d _) (.cons _ _ _ _ (.d _) (.cons _ _ _ _ (.d _) (.cons _ _ _ _ (.d _) (.cons _ _ _ _ (.frz_eq (k := .bool) (l := (g.cards.set c.card.toNat false)) rfl rfl) .nil))))))) (.cons _ _ _ _ (.agg _ _ (by repeat' first | exact .nil | refine .cons _ _ _ _ ?_ ?_ | exact .d _ | exact .int_eq rfl)) .nil), .nil, rfl, rfl, rfl⟩
        | false =>
          rw [if_neg (by decide)]
          show ABr _ _ _
          refine ⟨fun h => absurd h (by decide), fun _ => ?_⟩
          show ARet _ _ _
          exact ⟨[], [], _, .cons _ _ _ _ (.agg _ _ (.cons _ _ _ _ (.d _) (.cons _ _ _ _ (.d _) (.cons _ _ _ _ (.d _) (.cons _ _ _ _ (.d _) (.cons _ _ _ _ (.d _) (.cons _ _ _ _ (.frz_eq (k := .bool) (l := g.cards) rfl rfl) .nil))))))) (.cons _ _ _ _ (.agg _ _ (by repeat' first | exact .nil | refine .cons _ _ _ _ ?_ ?_ | exact .d _ | exact .int_eq wc)) .nil), .nil, rfl, rfl, rfl⟩
      · show ABr (decide (c.seek = 0)) _ _
        rw [if_neg hsk, decide_eq_false hsk]
        show ABr _ _ _
        refine ⟨fun h => absurd h (by decide), fun _ => ?_⟩
        by_cases ha : c.at_ = 0
        · show ABr (!decide (c.at_ = 0)) _ _
          rw [if_neg (fun k => k ha), decide_eq_true ha]
          show ABr _ _ _
          refine ⟨fun h => absurd h (by decide), fun _ => ?_⟩
          show ACall _ _ _ _ _ _
          refine call_ret (rNext10_spec g c.card c.seek hl hw) rfl ?_
          cases hn : nextO g c.card c.seek with
          | some a =>
            show ABr _ _ _
            refine ⟨fun _ => ?_, fun h => absurd h (by simp)⟩
            show ARet _ _ _
            exact ⟨[], [], _, .cons _ _ _ _ (.agg _ _ (.cons _ _ _ _ (.d _) (.cons _ _ _ _ (.d _) (.cons _ _ _ _ (.d _) (.cons _ _ _ _ (.d _) (.cons _ _ _ _ (.d _) (.cons _ _ _ _ (.frz_eq (k := .bool) (l := g.cards) rfl rfl) .nil))))))) (.cons _ _ _ _ (.agg _ _ (by repeat' first | exact .nil | refine .cons _ _ _ _ ?_ ?_ | exact .d _ | exact .int_eq rfl)) .nil), .nil, rfl, rfl, rfl⟩
          | none =>
            show ABr _ _ _
            refine ⟨fun h => absurd h (by simp), fun _ => ?_⟩
            unfold scanE
            show ABr c.met _ _
            cases hmt : c.met with
            | true =>
              rw [if_pos rfl]
              show ABr _ _ _
              refine ⟨fun _ => ?_, fun h => absurd h (by decide)⟩
              show AOb ((0 : Int) ≤ c.card ∧ c.card < (g.cards.length : Int)) _
              refine ⟨⟨h0, hc⟩, ?_⟩
              show AOb (c.card.toNat < g.cards.length) _
              refine ⟨by omega, ?_⟩
              show ARet _ _ _
              exact ⟨[], [], _, .cons _ _ _ _ (.agg _ _ (.cons _ _ _ _ (.d _) (.cons _ _ _ _ (.d _) (.cons _ _ _ _ (.d _) (.cons _ _ _ _ (.d _) (.cons _ _ _ _ (.d _) (.cons _ _ _ _ (.frz_eq (k := .bool) (l := (g.cards.set c.card.toNat true)) rfl rfl) .nil))))))) (.cons _ _ _ _ (.agg _ _ (by repeat' first | exact .nil | refine .cons _ _ _ _ ?_ ?_ | exact .d _ | exact .int_eq wc)) .nil), .nil, rfl, rfl, rfl⟩
            | false =>
              rw [if_neg (by decide)]
              show ABr _ _ _
              refine ⟨fun h => absurd h (by decide), fun _ => ?_⟩
              show ARet _ _ _
              exact ⟨[], [], _, .cons _ _ _ _ (.agg _ _ (.cons _ _ _ _ (.d _) (.cons _ _ _ _ (.d _) (.cons _ _ _ _ (.d _) (.cons _ _ _ _ (.d _) (.cons _ _ _ _ (.d _) (.cons _ _ _ _ (.frz_eq (k := .bool) (l := g.cards) rfl rfl) .nil))))))) (.cons _ _ _ _ (.agg _ _ (by repeat' first | exact .nil | refine .cons _ _ _ _ ?_ ?_ | exact .d _ | exact .int_eq wc)) .nil), .nil, rfl, rfl, rfl⟩
        · show ABr (!decide (c.at_ = 0)) _ _
          rw [if_pos ha, decide_eq_false ha]
          show ABr _ _ _
          refine ⟨fun _ => ?_, fun h => absurd h (by decide)⟩
          unfold scanF
          show ACall _ _ _ _ _ _
          refine call_ret (rHead7_spec g c.at_ hl hw) rfl ?_
          show ABr (bif (bif !decide (headE g c.at_ = 0) then true else decide (c.field_ < 0)) then true else decide (c.field_ ≥ (headH g c.at_).n)) _ _
          by_cases hf : headE g c.at_ ≠ 0 ∨ c.field_ < 0 ∨ (headH g c.at_).n ≤ c.field_
          · have hcc : (bif (bif !decide (headE g c.at_ = 0) then true else decide (c.field_ < 0)) then true else decide (c.field_ ≥ (headH g c.at_).n)) = true := by
              rcases hf with q | q | q
              · rw [decide_eq_false q]; rfl
              · rw [decide_eq_true q]; simp
              · rw [decide_eq_true (show c.field_ ≥ (headH g c.at_).n from q)]; simp
            refine ⟨fun _ => ?_, fun h => absurd (hcc.symm.trans h) (by decide)⟩
            rw [if_pos hf]
            show ARet _ _ _
            exact ⟨[], [], _, .cons _ _ _ _ (.agg _ _ (.cons _ _ _ _ (.d _) (.cons _ _ _ _ (.d _) (.cons _ _ _ _ (.d _) (.cons _ _ _ _ (.d _) (.cons _ _ _ _ (.d _) (.cons _ _ _ _ (.frz_eq (k := .bool) (l := g.cards) rfl rfl) .nil))))))) (.cons _ _ _ _ (.agg _ _ (by repeat' first | exact .nil | refine .cons _ _ _ _ ?_ ?_ | exact .d _ | exact .int_eq rfl)) .nil), .nil, rfl, rfl, rfl⟩
          · have hE : headE g c.at_ = 0 := Classical.byContradiction fun e => hf (.inl e)
            have hcc : (bif (bif !decide (headE g c.at_ = 0) then true else decide (c.field_ < 0)) then true else decide (c.field_ ≥ (headH g c.at_).n)) = false := by
              rw [decide_eq_true hE, decide_eq_false (show ¬ c.field_ < 0 by omega), decide_eq_false (show ¬ c.field_ ≥ (headH g c.at_).n by omega)]; rfl
            refine ⟨fun h => absurd (hcc.symm.trans h) (by decide), fun _ => ?_⟩
            rw [if_neg hf]
            have h00 : 0 ≤ c.field_ := by omega
            obtain ⟨_, hr, _⟩ := headE_of hE
            obtain ⟨hmw, _, hlen, _, _, h64⟩ := shapedH_of (mayH_shaped hm)
            obtain ⟨⟨a1, a2⟩, _⟩ := field_adr (f := c.field_ + 1) hE (by omega) (by omega)
            have ha16 := (room_adr (h := g) hr).1
            have w1 : IntKind.i64.wrap (c.at_ + 1) = c.at_ + 1 := wrap64 (by omega) (by omega)
            have w2 : IntKind.i64.wrap (c.at_ + 1 + c.field_) = c.at_ + 1 + c.field_ := wrap64 (by omega) (by omega)
            have w4 : IntKind.i64.wrap (c.at_ + 1 + c.field_ - 16) = c.at_ + 1 + c.field_ - 16 := wrap64 (by omega) (by omega)
            have w3 : IntKind.i64.wrap (c.field_ + 1) = c.field_ + 1 := wrap64 (by omega) (by omega)
            have hv : g.w.getD (IntKind.i64.wrap (IntKind.i64.wrap (IntKind.i64.wrap (c.at_ + 1) + c.field_) - 16)).toNat default = wordOf g (c.at_ + 1 + c.field_) := by
              rw [w1, w2, w4]
              unfold wordOf wordAt at0
              rw [if_pos ⟨hmw, by omega, by omega⟩]
              rfl
            show AOb ((0 : Int) ≤ IntKind.i64.wrap (IntKind.i64.wrap (IntKind.i64.wrap (c.at_ + 1) + c.field_) - 16) ∧ IntKind.i64.wrap (IntKind.i64.wrap (IntKind.i64.wrap (c.at_ + 1) + c.field_) - 16) < (g.w.length : Int)) _
            refine ⟨by rw [w1, w2, w4]; omega, ?_⟩
            rw [← hv]
            show ACall _ _ _ _ _ _
            refine call_ret (rYoung_spec g (g.w.getD (IntKind.i64.wrap (IntKind.i64.wrap (IntKind.i64.wrap (c.at_ + 1) + c.field_) - 16)).toNat default) hl hw) rfl ?_
            cases hy : youngH g (g.w.getD (IntKind.i64.wrap (IntKind.i64.wrap (IntKind.i64.wrap (c.at_ + 1) + c.field_) - 16)).toNat default) with
            | true =>
              have e1 : metS g c (g.w.getD (IntKind.i64.wrap (IntKind.i64.wrap (IntKind.i64.wrap (c.at_ + 1) + c.field_) - 16)).toNat default) = (shadeG g c (g.w.getD (IntKind.i64.wrap (IntKind.i64.wrap (IntKind.i64.wrap (c.at_ + 1) + c.field_) - 16)).toNat default), { shadeC g c (g.w.getD (IntKind.i64.wrap (IntKind.i64.wrap (IntKind.i64.wrap (c.at_ + 1) + c.field_) - 16)).toNat default) with met := true }) := by unfold metS; rw [if_pos hy]
              rw [e1]
              show ABr _ _ _
              refine ⟨fun _ => ?_, fun h => absurd h (by decide)⟩
              show ACall _ _ _ _ _ _
              refine .frz [192] [(224, .vars (g.enc.map .d))] [g.tv, c.tv, .int (g.w.getD (IntKind.i64.wrap (IntKind.i64.wrap (IntKind.i64.wrap (c.at_ + 1) + c.field_) - 16)).toNat default)] _ rfl (.vars _ _ _ _ rfl rfl (.cons _ _ _ _ (.same _) (.cons _ _ _ _ (.same _) (.cons _ _ _ _ (.same _) (.cons _ _ _ _ (.same _) (.cons _ _ _ _ (.same _) (.cons _ _ _ _ (.frz _ _ rfl) .nil)))))) .nil) (.cons _ _ _ _ (.agg _ _ (.cons _ _ _ _ (.same _) (.cons _ _ _ _ (.same _) (.cons _ _ _ _ (.same _) (.cons _ _ _ _ (.same _) (.cons _ _ _ _ (.same _) (.cons _ _ _ _ (.frz _ _ rfl) .nil))))))) (.cons _ _ _ _ (.agg _ _ (.cons _ _ _ _ (.same _) (.cons _ _ _ _ (.same _) (.cons _ _ _ _ (.same _) (.cons _ _ _ _ (.same _) (.cons _ _ _ _ (.same _) (.cons _ _ _ _ (.same _) (.cons _ _ _ _ (.same _) (.cons _ _ _ _ (.same _) (.cons _ _ _ _ (.same _) (.cons _ _ _ _ (.same _) .nil))))))))))) (.cons _ _ _ _ (.c _ _ (.same _)) .nil))) rfl (rShade_spec g c (g.w.getD (IntKind.i64.wrap (IntKind.i64.wrap (IntKind.i64.wrap (c.at_ + 1) + c.field_) - 16)).toNat default) hl hs hw hk) ?_
              rintro H r ⟨rfl, rfl⟩ _ _
              show ABr (decide (IntKind.i64.wrap (c.field_ + 1) = (headH g c.at_).n)) _ _
              rw [w3]
              by_cases hl2 : c.field_ + 1 = (headH g c.at_).n
              · rw [if_pos hl2, decide_eq_true hl2]
                show ABr _ _ _
                refine ⟨fun _ => ?_, fun h => absurd h (by decide)⟩
                show ARet _ _ _
                exact ret_d rfl ⟨rfl, rfl⟩
              · rw [if_neg hl2, decide_eq_false hl2]
                show ABr _ _ _
                refine ⟨fun h => absurd h (by decide), fun _ => ?_⟩
                show ARet _ _ _
                exact ret_d rfl ⟨rfl, rfl⟩
            | false =>
              have e1 : metS g c (g.w.getD (IntKind.i64.wrap (IntKind.i64.wrap (IntKind.i64.wrap (c.at_ + 1) + c.field_) - 16)).toNat default) = (g, c) := by unfold metS; rw [if_neg (by rw [hy]; decide)]
              rw [e1]
              show ABr _ _ _
              refine ⟨fun h => absurd h (by decide), fun _ => ?_⟩
              show ABr (decide (IntKind.i64.wrap (c.field_ + 1) = (headH g c.at_).n)) _ _
              rw [w3]
              by_cases hl2 : c.field_ + 1 = (headH g c.at_).n
              · rw [if_pos hl2, decide_eq_true hl2]
                show ABr _ _ _
                refine ⟨fun _ => ?_, fun h => absurd h (by decide)⟩
                show ARet _ _ _
                exact ⟨[], [], _, .cons _ _ _ _ (.agg _ _ (.cons _ _ _ _ (.d _) (.cons _ _ _ _ (.d _) (.cons _ _ _ _ (.d _) (.cons _ _ _ _ (.d _) (.cons _ _ _ _ (.d _) (.cons _ _ _ _ (.frz_eq (k := .bool) (l := g.cards) rfl rfl) .nil))))))) (.cons _ _ _ _ (.agg _ _ (by repeat' first | exact .nil | refine .cons _ _ _ _ ?_ ?_ | exact .d _ | exact .int_eq rfl)) .nil), .nil, rfl, rfl, rfl⟩
              · rw [if_neg hl2, decide_eq_false hl2]
                show ABr _ _ _
                refine ⟨fun h => absurd h (by decide), fun _ => ?_⟩
                show ARet _ _ _
                exact ⟨[], [], _, .cons _ _ _ _ (.agg _ _ (.cons _ _ _ _ (.d _) (.cons _ _ _ _ (.d _) (.cons _ _ _ _ (.d _) (.cons _ _ _ _ (.d _) (.cons _ _ _ _ (.d _) (.cons _ _ _ _ (.frz_eq (k := .bool) (l := g.cards) rfl rfl) .nil))))))) (.cons _ _ _ _ (.agg _ _ (by repeat' first | exact .nil | refine .cons _ _ _ _ ?_ ?_ | exact .d _ | exact .int_eq rfl)) .nil), .nil, rfl, rfl, rfl⟩
  · rw [if_neg hx]
    have hc0 : (bif (bif !mayH g [] then true else !decide (c.phase = 4)) then true else decide (c.card < 0)) = true := by
      cases hm : mayH g [] with
      | false => rfl
      | true =>
        by_cases hp : c.phase = 4
        · have : c.card < 0 := by
            apply Classical.byContradiction
            intro h; exact hx ⟨hm, hp, by omega⟩
          rw [decide_eq_true hp, decide_eq_true this]; rfl
        · rw [decide_eq_false hp]; rfl
    refine ⟨fun _ => ?_, fun h => absurd (hc0.symm.trans h) (by decide)⟩
    show ARet _ _ _
    exact ⟨[], [], _, .cons _ _ _ _ (.agg _ _ (.cons _ _ _ _ (.d _) (.cons _ _ _ _ (.d _) (.cons _ _ _ _ (.d _) (.cons _ _ _ _ (.d _) (.cons _ _ _ _ (.d _) (.cons _ _ _ _ (.frz_eq (k := .bool) (l := g.cards) rfl rfl) .nil))))))) (.cons _ _ _ _ (.agg _ _ (by repeat' first | exact .nil | refine .cons _ _ _ _ ?_ ?_ | exact .d _ | exact .int_eq rfl)) .nil), .nil, rfl, rfl, rfl⟩

theorem ScanSteps_spec (g : Hp) (hw : ∀ x ∈ g.w, I64 x) (c : Col) : Spec X 3 [] [g.tv, c.tv] (Ret [] (.bo true)) := by
  refine spec_go X_ok Tryz.f3 (by kernel_rfl) (by kernel_rfl) (by kernel_rfl) fun hb hH => ⟨rfl, ?_⟩
  show ACall _ _ _ _ _ _
  refine call_ret (awake17_spec) rfl ?_
  show ACall _ _ _ _ _ _
  refine call_ret (few17_spec g c) rfl ?_
  cases hf : few11 g c with
  | false =>
    show ABr _ _ _
    refine ⟨fun _ => ?_, fun h => absurd h (by decide)⟩
    show ARet _ _ _
    exact ret_d rfl ⟨rfl, rfl⟩
  | true =>
    obtain ⟨f1, f2, f3, f4, f5⟩ := few17_of hf
    show ABr _ _ _
    refine ⟨fun h => absurd h (by decide), fun _ => ?_⟩
    show ACall _ _ _ _ _ _
    refine call_ret (rOwn7f_spec g f3) rfl ?_
    show ACall _ _ _ _ _ _
    refine call_ret (sStep_spec g c f2 f3 f5) rfl ?_
    show ACall _ _ _ _ _ _
    refine call_ret (rScan_spec g c f2 f3 hw f5) rfl ?_
    show ACall _ _ _ _ _ _
    refine call_ret (hSame_spec (scanS g c).1 (scanS g c).1) rfl ?_
    rw [decide_eq_true (show (scanS g c).1 = (scanS g c).1 from rfl)]
    show ACall _ _ _ _ _ _
    refine call_ret (cSame_spec (scanS g c).2 (scanS g c).2) rfl ?_
    rw [decide_eq_true (show (scanS g c).2 = (scanS g c).2 from rfl)]
    show AIf _ _ _
    refine ⟨fun _ => ?_, fun h => absurd ⟨rfl, trivial⟩ h⟩
    show ACall _ _ _ _ _ _
    refine call_ret (hSame_spec g g) rfl ?_
    rw [decide_eq_true (show g = g from rfl)]
    show ARet _ _ _
    exact ret_d rfl ⟨rfl, rfl⟩
end Go.Abs
