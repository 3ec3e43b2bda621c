/- Walks: a step of going through dirty cards. -/
import Derived.Test.YtbbakbkmjhhbpaaGreatDoorWArena2
import Derived.Test.YtbbakbkmjhhbpaaGreatDoorWScanK
set_option linter.all false
set_option linter.unusedVariables false
set_option linter.unusedSimpArgs false
namespace Go.Abs
open Go.Proofs Go.Proofs.YtbbakbkmjhhbpaaGreatDoor
set_option maxRecDepth 8000

/-- A heap, and a collector that goes through it, in one cell. -/
def wkV (g : Hp) (c : Col) : List CV := (g.enc ++ c.enc).map .d

theorem sown_spec (g : Hp) (c : Col) (hs : g.small) (hw : c.work.length ≤ most) : Spec X 27 [] [g.tv, c.tv] (Ret [(0, .vars (wkV g c))] (.c (.ptr 0 0 0))) := by
  refine spec_go X_ok Tryz.f27 (by kernel_rfl) (by kernel_rfl) (by kernel_rfl) fun hb hH => ⟨rfl, ?_⟩
  obtain ⟨h1, h2, h3, h4, h5, h6⟩ := hs
  show ADCall _ _ _ _ _ _
  refine .mk _ _ (CloneInts_spec g.w h1) rfl ?_
  show ADCall _ _ _ _ _ _
  refine .mk _ _ (ClonePages_spec g.pages h2) rfl ?_
  show ADCall _ _ _ _ _ _
  refine .mk _ _ (CloneBools_spec g.cards h3) rfl ?_
  show ∃ n, _
  refine ⟨4, ?_⟩
  show ALoop _ _ _ _
  refine .next ?_
  show ABr _ _ _
  refine ⟨fun _ => ?_, fun h => absurd h (by decide)⟩
  show AOb _ _
  refine ⟨by decide, ?_⟩
  show ACall _ _ _ _ _ _
  refine call_ret (CloneInts_spec g.free.l0 h4) rfl ?_
  show AOb _ _
  refine ⟨by decide, ?_⟩
  show ALoop _ _ _ _
  refine .next ?_
  show ABr _ _ _
  refine ⟨fun _ => ?_, fun h => absurd h (by decide)⟩
  show AOb _ _
  refine ⟨by decide, ?_⟩
  show ACall _ _ _ _ _ _
  refine call_ret (CloneInts_spec g.free.l1 h5) rfl ?_
  show AOb _ _
  refine ⟨by decide, ?_⟩
  show ALoop _ _ _ _
  refine .next ?_
  show ABr _ _ _
  refine ⟨fun _ => ?_, fun h => absurd h (by decide)⟩
  show AOb _ _
  refine ⟨by decide, ?_⟩
  show ACall _ _ _ _ _ _
  refine call_ret (CloneInts_spec g.free.l2 h6) rfl ?_
  show AOb _ _
  refine ⟨by decide, ?_⟩
  show ALoop _ _ _ _
  refine .next ?_
  show ABr _ _ _
  refine ⟨fun h => absurd h (by decide), fun _ => ?_⟩
  show ACall _ _ _ _ _ _
  refine call_ret (CloneInts_spec c.work hw) rfl ?_
  show ARet _ _ _
  exact ⟨[(_, 0)], [(0, .vars (wkV g c))], [.c (.ptr 0 0 0)], .cons _ _ _ _ (.c _ _ (.ptr1 _ _ _ _)) .nil, .old 0 _ _ _ _ rfl rfl (.vars _ _ (LeL_refl rfl)) .nil, rfl, rfl, rfl⟩

theorem sat_spec (g : Hp) (c : Col) (a : Int) : Spec X 28 [(16, .vars (wkV g c))] [.c (.ptr 16 0 0), .int a] (fun H r => H = [(16, .vars (wkV g { c with at_ := a, field_ := 0 }))] ∧ r = .tup []) := by
  refine spec_go X_ok Tryz.f28 (by kernel_rfl) (by kernel_rfl) (by kernel_rfl) fun hb hH => ⟨rfl, ?_⟩
  show ARet _ _ _
  exact ⟨[(16, 16)], [(16, .vars (wkV g { c with at_ := a, field_ := 0 }))], [], .nil, .old 16 16 _ _ _ rfl rfl (.vars _ _ (LeL_refl rfl)) .nil, rfl, rfl, rfl⟩

theorem syoung_spec (g : Hp) (c : Col) (a : Int) (hl : g.light) : Spec X 63 [] [.c (.d (.rp (g.enc ++ c.enc))), .int a] (Ret [] (.bo (youngH g a))) := by
  refine spec_go X_ok Tryz.f63 (by kernel_rfl) (by kernel_rfl) (by kernel_rfl) fun hb hH => ⟨rfl, ?_⟩
  show ACall _ _ _ _ _ _
  refine call_ret (hHead_spec g a hl) rfl ?_
  show ARet _ _ _
  refine ret_bo (x := bif decide (headE g a = 0) then !(headH g a).old else false) ?_ ⟨rfl, rfl⟩
  unfold youngH
  cases decide (headE g a = 0) <;> rfl

theorem saddr_spec (g : Hp) (c : Col) : Spec X 67 [] [.c (.d (.rp (g.enc ++ c.enc)))] (Ret [] (.int (IntKind.i64.wrap (16 + IntKind.i64.wrap (8 * c.card))))) := by
  refine spec_go X_ok Tryz.f67 (by kernel_rfl) (by kernel_rfl) (by kernel_rfl) fun hb hH => ⟨rfl, ?_⟩
  show ARet _ _ _
  exact ret_d rfl ⟨rfl, rfl⟩

theorem card64 {g : Hp} (hm : mayH g [] = true) {n : Int} (h0 : 0 ≤ n) (hc : n < (g.cards.length : Int)) : IntKind.i64.wrap (n + 1) = n + 1 := by
  obtain ⟨_, _, _, h4, _, h64⟩ := shapedH_of (mayH_shaped hm)
  exact wrap64 (by omega) (by omega)
theorem clean_ok {g : Hp} (hm : mayH g [] = true) {n : Int} (h0 : 0 ≤ n) (hc : n < (g.cards.length : Int)) : cleanH g n = cset g n false := by
  apply cleanH_yes
  unfold cleanE
  rw [hm, decide_eq_true ⟨h0, hc⟩]
  rfl

theorem sbegin_spec (g : Hp) (c : Col) (hl : g.light) (hm : mayH g [] = true) (h0 : 0 ≤ c.card) (hc : c.card < (g.cards.length : Int)) : Spec X 29 [(16, .vars (wkV g c))] [.c (.ptr 16 0 0)] (fun H r => H = [(16, .vars (wkV (scanB g c).1 (scanB g c).2))] ∧ r = .tup []) := by
  refine spec_go X_ok Tryz.f29 (by kernel_rfl) (by kernel_rfl) (by kernel_rfl) fun hb hH => ⟨rfl, ?_⟩
  show AOb ((0 : Int) ≤ c.card ∧ c.card < (g.cards.length : Int)) _
  refine ⟨⟨h0, hc⟩, ?_⟩
  unfold scanB
  show ABr (!g.cards.getD c.card.toNat false) _ _
  cases hd : g.cards.getD c.card.toNat false with
  | false =>
    rw [if_neg (by decide)]
    show ABr _ _ _
    refine ⟨fun _ => ?_, fun h => absurd h (by decide)⟩
    have wc := card64 hm h0 hc
    show ARet _ _ _
    exact ⟨[(16, 16)], [(16, .vars (wkV g { c with card := c.card + 1 }))], [], .nil, .old 16 16 _ _ _ rfl rfl (.vars _ _ (by repeat' first | exact .nil | refine .cons _ _ _ _ ?_ ?_ | exact .d _ | exact .int_eq wc)) .nil, rfl, rfl, rfl⟩
  | true =>
    rw [if_pos rfl, ← clean_ok hm h0 hc]
    show ABr _ _ _
    refine ⟨fun h => absurd h (by decide), fun _ => ?_⟩
    show ADCall _ _ _ _ _ _
    refine .mk _ _ (Clean_spec g c.card hl) rfl ?_
    show ACall _ _ _ _ _ _
    refine .hand [(16, 16)] [(16, .vars (wkV (cleanH g c.card) { c with seek := 1, met := false }))] [.c (.ptr 16 0 0), .int 0] _ (.cons _ _ _ _ (.c _ _ (.ptr _ _ _ _ rfl)) (.cons _ _ _ _ .same .nil)) (.old 16 16 _ _ _ rfl rfl (.vars _ _ (LeL_refl rfl)) .nil) rfl (sat_spec (cleanH g c.card) { c with seek := 1, met := false } 0) ?_
    rintro H r ⟨rfl, rfl⟩ _ _
    refine ⟨rfl, .inl rfl, ?_⟩
    show ARet _ _ _
    exact ⟨[(16, 16)], [(16, .vars (wkV (cleanH g c.card) { c with seek := 1, met := false, at_ := 0, field_ := 0 }))], [], .nil, .old 16 16 _ _ _ rfl rfl (.vars _ _ (by repeat' first | exact .nil | refine .cons _ _ _ _ ?_ ?_ | exact .d _ | exact .int_eq rfl)) .nil, rfl, rfl, rfl⟩

set_option maxRecDepth 60000 in
set_option maxHeartbeats 2000000 in
theorem sfield_spec (g : Hp) (c : Col) (hl : g.light) (hs : g.small) (hk : c.work.length < most) : Spec X 30 [(16, .vars (wkV g c))] [.c (.ptr 16 0 0)] (fun H r => H = [(16, .vars (wkV (scanF g c).1 (scanF g c).2))] ∧ r = .tup []) := by
  refine spec_go X_ok Tryz.f30 (by kernel_rfl) (by kernel_rfl) (by kernel_rfl) fun hb hH => ⟨rfl, ?_⟩
  show ADCall _ _ _ _ _ _
  refine .mk _ _ (hHead_spec g c.at_ hl) rfl ?_
  unfold scanF
  by_cases hE : headE g c.at_ = 0
  · show ABr (!decide (headE g c.at_ = 0)) _ _
    rw [decide_eq_true hE]
    show ABr _ _ _
    refine ⟨fun h => absurd h (by decide), fun _ => ?_⟩
    by_cases hf : c.field_ < 0
    · show ABr (decide (c.field_ < 0)) _ _
      rw [decide_eq_true hf, if_pos (.inr (.inl hf))]
      show ABr _ _ _
      refine ⟨fun _ => ?_, fun h => absurd h (by decide)⟩
      show ABr _ _ _
      refine ⟨fun _ => ?_, fun h => absurd h (by decide)⟩
      show ACall _ _ _ _ _ _
      refine .hand [(16, 16)] [(16, .vars (wkV g c))] [.c (.ptr 16 0 0), .int 0] _ (.cons _ _ _ _ (.c _ _ (.ptr _ _ _ _ rfl)) (.cons _ _ _ _ .same .nil)) (.old 16 16 _ _ _ rfl rfl (.vars _ _ (LeL_refl rfl)) .nil) rfl (sat_spec g c 0) ?_
      rintro H r ⟨rfl, rfl⟩ _ _
      refine ⟨rfl, .inl rfl, ?_⟩
      show ARet _ _ _
      exact ⟨[(16, 16)], [(16, .vars (wkV g { c with at_ := 0, field_ := 0 }))], [], .nil, .old 16 16 _ _ _ rfl rfl (.vars _ _ (by repeat' first | exact .nil | refine .cons _ _ _ _ ?_ ?_ | exact .d _ | exact .int_eq rfl)) .nil, rfl, rfl, rfl⟩
    · show ABr (decide (c.field_ < 0)) _ _
      rw [decide_eq_false hf]
      show ABr _ _ _
      refine ⟨fun h => absurd h (by decide), fun _ => ?_⟩
      by_cases hn : (headH g c.at_).n ≤ c.field_
      · show ABr (decide (c.field_ ≥ (headH g c.at_).n)) _ _
        rw [decide_eq_true (show c.field_ ≥ (headH g c.at_).n from hn), if_pos (.inr (.inr hn))]
        show ABr _ _ _
        refine ⟨fun _ => ?_, fun h => absurd h (by decide)⟩
        show ACall _ _ _ _ _ _
        refine .hand [(16, 16)] [(16, .vars (wkV g c))] [.c (.ptr 16 0 0), .int 0] _ (.cons _ _ _ _ (.c _ _ (.ptr _ _ _ _ rfl)) (.cons _ _ _ _ .same .nil)) (.old 16 16 _ _ _ rfl rfl (.vars _ _ (LeL_refl rfl)) .nil) rfl (sat_spec g c 0) ?_
        rintro H r ⟨rfl, rfl⟩ _ _
        refine ⟨rfl, .inl rfl, ?_⟩
        show ARet _ _ _
        exact ⟨[(16, 16)], [(16, .vars (wkV g { c with at_ := 0, field_ := 0 }))], [], .nil, .old 16 16 _ _ _ rfl rfl (.vars _ _ (by repeat' first | exact .nil | refine .cons _ _ _ _ ?_ ?_ | exact .d _ | exact .int_eq rfl)) .nil, rfl, rfl, rfl⟩
      · show ABr (decide (c.field_ ≥ (headH g c.at_).n)) _ _
        rw [decide_eq_false (show ¬ c.field_ ≥ (headH g c.at_).n from hn), if_neg (fun k => by rcases k with k | k | k; exact k hE; exact hf k; exact hn k)]
        show ABr _ _ _
        refine ⟨fun h => absurd h (by decide), fun _ => ?_⟩
        have h0 : 0 ≤ c.field_ := by omega
        obtain ⟨hm, hr, _⟩ := headE_of hE
        obtain ⟨hmw, _, hlen, _, _, h64⟩ := shapedH_of (mayH_shaped hm)
        obtain ⟨⟨a1, a2⟩, _⟩ := field_adr (f := c.field_ + 1) hE (by omega) (by omega)
        have ha16 := (room_adr (h := g) hr).1
        have w1 : IntKind.i64.wrap (c.at_ + 1) = c.at_ + 1 := wrap64 (by omega) (by omega)
        have w2 : IntKind.i64.wrap (c.at_ + 1 + c.field_) = c.at_ + 1 + c.field_ := wrap64 (by omega) (by omega)
        have w3 : IntKind.i64.wrap (c.field_ + 1) = c.field_ + 1 := wrap64 (by omega) (by omega)
        have hv : at0 g.w (IntKind.i64.wrap (IntKind.i64.wrap (c.at_ + 1) + c.field_) - 16).toNat = wordOf g (c.at_ + 1 + c.field_) := by
          rw [w1, w2]
          unfold wordOf wordAt
          rw [if_pos ⟨hmw, by omega, by omega⟩]
        generalize wordOf g (c.at_ + 1 + c.field_) = v at hv
        show ADCall _ _ _ _ _ _
        refine .mk _ _ (aGet_spec g.w (IntKind.i64.wrap (IntKind.i64.wrap (c.at_ + 1) + c.field_)) hmw (by rw [w1, w2]; omega)) rfl ?_
        rw [hv]
        show ACall _ _ _ _ _ _
        refine call_ret (syoung_spec g c v hl) rfl ?_
        cases hy : youngH g v with
        | true =>
          have e1 : metS g c v = (shadeG g c v, { shadeC g c v with met := true }) := by unfold metS; rw [if_pos hy]
          rw [e1]
          show ABr _ _ _
          refine ⟨fun _ => ?_, fun h => absurd h (by decide)⟩
          show ADCall _ _ _ _ _ _
          refine .mk _ _ (Shade_spec g c v hl hs hk) rfl ?_
          have sm := shadeC_same g c v
          have ef : IntKind.i64.wrap ((shadeC g c v).field_ + 1) = c.field_ + 1 := by rw [sm.field_, w3]
          show ABr (decide (IntKind.i64.wrap ((shadeC g c v).field_ + 1) = (headH g c.at_).n)) _ _
          rw [ef]
          by_cases hl2 : c.field_ + 1 = (headH g c.at_).n
          · rw [if_pos hl2, decide_eq_true hl2]
            show ABr _ _ _
            refine ⟨fun _ => ?_, fun h => absurd h (by decide)⟩
            show ACall _ _ _ _ _ _
            refine .hand [(16, 16)] [(16, .vars (wkV (shadeG g c v) { shadeC g c v with met := true, field_ := c.field_ + 1 }))] [.c (.ptr 16 0 0), .int 0] _ (.cons _ _ _ _ (.c _ _ (.ptr _ _ _ _ rfl)) (.cons _ _ _ _ .same .nil)) (.old 16 16 _ _ _ rfl rfl (.vars _ _ (LeL_refl rfl)) .nil) rfl (sat_spec (shadeG g c v) { shadeC g c v with met := true, field_ := c.field_ + 1 } 0) ?_
            rintro H r ⟨rfl, rfl⟩ _ _
            refine ⟨rfl, .inl rfl, ?_⟩
            show ARet _ _ _
            exact ⟨[(16, 16)], [(16, .vars (wkV (shadeG g c v) { shadeC g c v with met := true, at_ := 0, field_ := 0 }))], [], .nil, .old 16 16 _ _ _ rfl rfl (.vars _ _ (by repeat' first | exact .nil | refine .cons _ _ _ _ ?_ ?_ | exact .d _ | exact .int_eq rfl)) .nil, rfl, rfl, rfl⟩
          · rw [if_neg hl2, decide_eq_false hl2]
            show ABr _ _ _
            refine ⟨fun h => absurd h (by decide), fun _ => ?_⟩
            show ARet _ _ _
            exact ⟨[(16, 16)], [(16, .vars (wkV (shadeG g c v) { shadeC g c v with met := true, field_ := c.field_ + 1 }))], [], .nil, .old 16 16 _ _ _ rfl rfl (.vars _ _ (by repeat' first | exact .nil | refine .cons _ _ _ _ ?_ ?_ | exact .d _ | exact .int_eq rfl)) .nil, rfl, rfl, rfl⟩
        | false =>
          have e1 : metS g c v = (g, c) := by unfold metS; rw [if_neg (by rw [hy]; decide)]
          rw [e1]
          show ABr _ _ _
          refine ⟨fun h => absurd h (by decide), fun _ => ?_⟩
          show ABr (decide (IntKind.i64.wrap (c.field_ + 1) = (headH g c.at_).n)) _ _
          rw [w3]
          by_cases hl2 : c.field_ + 1 = (headH g c.at_).n
          · rw [if_pos hl2, decide_eq_true hl2]
            show ABr _ _ _
            refine ⟨fun _ => ?_, fun h => absurd h (by decide)⟩
            show ACall _ _ _ _ _ _
            refine .hand [(16, 16)] [(16, .vars (wkV g { c with field_ := c.field_ + 1 }))] [.c (.ptr 16 0 0), .int 0] _ (.cons _ _ _ _ (.c _ _ (.ptr _ _ _ _ rfl)) (.cons _ _ _ _ .same .nil)) (.old 16 16 _ _ _ rfl rfl (.vars _ _ (LeL_refl rfl)) .nil) rfl (sat_spec g { c with field_ := c.field_ + 1 } 0) ?_
            rintro H r ⟨rfl, rfl⟩ _ _
            refine ⟨rfl, .inl rfl, ?_⟩
            show ARet _ _ _
            exact ⟨[(16, 16)], [(16, .vars (wkV g { c with at_ := 0, field_ := 0 }))], [], .nil, .old 16 16 _ _ _ rfl rfl (.vars _ _ (by repeat' first | exact .nil | refine .cons _ _ _ _ ?_ ?_ | exact .d _ | exact .int_eq rfl)) .nil, rfl, rfl, rfl⟩
          · rw [if_neg hl2, decide_eq_false hl2]
            show ABr _ _ _
            refine ⟨fun h => absurd h (by decide), fun _ => ?_⟩
            show ARet _ _ _
            exact ⟨[(16, 16)], [(16, .vars (wkV g { c with field_ := c.field_ + 1 }))], [], .nil, .old 16 16 _ _ _ rfl rfl (.vars _ _ (by repeat' first | exact .nil | refine .cons _ _ _ _ ?_ ?_ | exact .d _ | exact .int_eq rfl)) .nil, rfl, rfl, rfl⟩
  · show ABr (!decide (headE g c.at_ = 0)) _ _
    rw [decide_eq_false hE, if_pos (.inl hE)]
    show ABr _ _ _
    refine ⟨fun _ => ?_, fun h => absurd h (by decide)⟩
    conv => whnf
    refine ⟨fun _ => ?_, fun h => absurd h (by decide)⟩
    show ABr _ _ _
    refine ⟨fun _ => ?_, fun h => absurd h (by decide)⟩
    show ACall _ _ _ _ _ _
    refine .hand [(16, 16)] [(16, .vars (wkV g c))] [.c (.ptr 16 0 0), .int 0] _ (.cons _ _ _ _ (.c _ _ (.ptr _ _ _ _ rfl)) (.cons _ _ _ _ .same .nil)) (.old 16 16 _ _ _ rfl rfl (.vars _ _ (LeL_refl rfl)) .nil) rfl (sat_spec g c 0) ?_
    rintro H r ⟨rfl, rfl⟩ _ _
    refine ⟨rfl, .inl rfl, ?_⟩
    show ARet _ _ _
    exact ⟨[(16, 16)], [(16, .vars (wkV g { c with at_ := 0, field_ := 0 }))], [], .nil, .old 16 16 _ _ _ rfl rfl (.vars _ _ (by repeat' first | exact .nil | refine .cons _ _ _ _ ?_ ?_ | exact .d _ | exact .int_eq rfl)) .nil, rfl, rfl, rfl⟩

theorem cardA {g : Hp} (hm : mayH g [] = true) {n : Int} (h0 : 0 ≤ n) (hc : n < (g.cards.length : Int)) : IntKind.i64.wrap (16 + IntKind.i64.wrap (8 * n)) = 16 + 8 * n ∧ dirtyH g (16 + 8 * n) = cset g n true := by
  obtain ⟨_, _, h3, h4, _, h64⟩ := shapedH_of (mayH_shaped hm)
  have e1 : IntKind.i64.wrap (8 * n) = 8 * n := wrap64 (by omega) (by omega)
  have e2 : IntKind.i64.wrap (16 + 8 * n) = 16 + 8 * n := wrap64 (by omega) (by omega)
  have h0' := cardE_mk (a := 16 + 8 * n) hm ⟨by omega, by omega⟩
  refine ⟨by rw [e1, e2], ?_⟩
  rw [dirtyH_yes h0', cardOf_yes h0']
  congr 1
  omega

theorem send_spec (g : Hp) (c : Col) (hl : g.light) (hm : mayH g [] = true) (h0 : 0 ≤ c.card) (hc : c.card < (g.cards.length : Int)) : Spec X 32 [(16, .vars (wkV g c))] [.c (.ptr 16 0 0)] (fun H r => H = [(16, .vars (wkV (scanE g c).1 (scanE g c).2))] ∧ r = .tup []) := by
  refine spec_go X_ok Tryz.f32 (by kernel_rfl) (by kernel_rfl) (by kernel_rfl) fun hb hH => ⟨rfl, ?_⟩
  have wc := card64 hm h0 hc
  obtain ⟨wa, wd⟩ := cardA hm h0 hc
  unfold scanE
  cases hd : c.met with
  | true =>
    rw [if_pos rfl, ← wd]
    show ABr _ _ _
    refine ⟨fun _ => ?_, fun h => absurd h (by simp [hd])⟩
    show ADCall _ _ _ _ _ _
    refine .mk _ _ (saddr_spec g c) rfl ?_
    rw [wa]
    show ADCall _ _ _ _ _ _
    refine .mk _ _ (Dirty_spec g (16 + 8 * c.card) hl (by obtain ⟨_, _, h3, h4, _, h64⟩ := shapedH_of (mayH_shaped hm); omega)) rfl ?_
    show ARet _ _ _
    exact ⟨[(16, 16)], [(16, .vars (wkV (dirtyH g (16 + 8 * c.card)) { c with card := c.card + 1, seek := 0, met := false }))], [], .nil, .old 16 16 _ _ _ rfl rfl (.vars _ _ (by repeat' first | exact .nil | refine .cons _ _ _ _ ?_ ?_ | exact .d _ | exact .int_eq wc)) .nil, rfl, rfl, rfl⟩
  | false =>
    rw [if_neg (by decide)]
    show ABr _ _ _
    refine ⟨fun h => absurd h (by simp [hd]), fun _ => ?_⟩
    show ARet _ _ _
    exact ⟨[(16, 16)], [(16, .vars (wkV g { c with card := c.card + 1, seek := 0, met := false }))], [], .nil, .old 16 16 _ _ _ rfl rfl (.vars _ _ (by repeat' first | exact .nil | refine .cons _ _ _ _ ?_ ?_ | exact .d _ | exact .int_eq wc)) .nil, rfl, rfl, rfl⟩

set_option maxRecDepth 60000 in
set_option maxHeartbeats 2000000 in
theorem sStep_spec (g : Hp) (c : Col) (hl : g.light) (hs : g.small) (hk : c.work.length < most) : Spec X 12 [] [g.tv, c.tv] (Ret [] (.tup [(scanS g c).1.tv, (scanS g c).2.tv])) := by
  refine spec_go X_ok Tryz.f12 (by kernel_rfl) (by kernel_rfl) (by kernel_rfl) fun hb hH => ⟨rfl, ?_⟩
  show ACall _ _ _ _ _ _
  refine .mk _ (sown_spec g c hs (Nat.le_of_lt hk)) fun H r ⟨eH, er⟩ _ _ => ⟨.inl rfl, ?_⟩
  subst eH er
  show ACall _ _ _ _ _ _
  refine call_ret (hHMay0_spec g hl) rfl ?_
  show ABr (bif (bif !mayH g [] then true else !decide (c.phase = 4)) then true else decide (c.card < 0)) _ _
  unfold scanS
  by_cases hx : mayH g [] = true ∧ c.phase = 4 ∧ 0 ≤ c.card
  · obtain ⟨hm, hp, h0⟩ := hx
    have hc0 : (bif (bif !mayH g [] then true else !decide (c.phase = 4)) then true else decide (c.card < 0)) = false := by rw [hm, decide_eq_true hp, decide_eq_false (by omega)]; rfl
    refine ⟨fun h => absurd (hc0.symm.trans h) (by decide), fun _ => ?_⟩
    rw [if_pos ⟨hm, hp, h0⟩]
    show ABr (decide (c.card ≥ (g.cards.length : Int))) _ _
    by_cases hc : (g.cards.length : Int) ≤ c.card
    · rw [if_pos hc, decide_eq_true (show c.card ≥ (g.cards.length : Int) from hc)]
      show ABr _ _ _
      refine ⟨fun _ => ?_, fun h => absurd h (by decide)⟩
      show ACall _ _ _ _ _ _
      refine .hand [(224, 16)] [(16, .vars (wkV g { c with phase := 5, seek := 0, card := 0, met := false }))] [.c (.ptr 16 0 0), .int 0] _ (.cons _ _ _ _ (.c _ _ (.ptr _ _ _ _ rfl)) (.cons _ _ _ _ .same .nil)) (.old 16 224 _ _ _ rfl rfl (.vars _ _ (LeL_refl rfl)) .nil) rfl (sat_spec g { c with phase := 5, seek := 0, card := 0, met := false } 0) ?_
      rintro H r ⟨rfl, rfl⟩ _ _
      refine ⟨rfl, .inl rfl, ?_⟩
      show ARet _ _ _
      exact ret_d rfl ⟨rfl, rfl⟩
    · rw [if_neg hc, decide_eq_false (show ¬ c.card ≥ (g.cards.length : Int) from hc)]
      show ABr _ _ _
      refine ⟨fun h => absurd h (by decide), fun _ => ?_⟩
      have hc : c.card < (g.cards.length : Int) := by omega
      by_cases hsk : c.seek = 0
      · show ABr (decide (c.seek = 0)) _ _
        rw [if_pos hsk, decide_eq_true hsk]
        show ABr _ _ _
        refine ⟨fun _ => ?_, fun h => absurd h (by decide)⟩
        show ACall _ _ _ _ _ _
        refine .hand [(224, 16)] [(16, .vars (wkV g c))] [.c (.ptr 16 0 0)] _ (.cons _ _ _ _ (.c _ _ (.ptr _ _ _ _ rfl)) .nil) (.old 16 224 _ _ _ rfl rfl (.vars _ _ (LeL_refl rfl)) .nil) rfl (sbegin_spec g c hl hm h0 hc) ?_
        rintro H r ⟨rfl, rfl⟩ _ _
        refine ⟨rfl, .inl rfl, ?_⟩
        show ARet _ _ _
        exact ret_d rfl ⟨rfl, rfl⟩
      · show ABr (decide (c.seek = 0)) _ _
        rw [if_neg hsk, decide_eq_false hsk]
        show ABr _ _ _
        refine ⟨fun h => absurd h (by decide), fun _ => ?_⟩
        by_cases ha : c.at_ = 0
        · show ABr (!decide (c.at_ = 0)) _ _
          rw [if_neg (fun k => k ha), decide_eq_true ha]
          show ABr _ _ _
          refine ⟨fun h => absurd h (by decide), fun _ => ?_⟩
          show ACall _ _ _ _ _ _
          refine call_ret (cNext_spec g c.card c.seek hl) rfl ?_
          cases hn : nextO g c.card c.seek with
          | some a =>
            show ABr _ _ _
            refine ⟨fun _ => ?_, fun h => absurd h (by simp)⟩
            show ACall _ _ _ _ _ _
            refine .hand [(224, 16)] [(16, .vars (wkV g c))] [.c (.ptr 16 0 0), .int a] _ (.cons _ _ _ _ (.c _ _ (.ptr _ _ _ _ rfl)) (.cons _ _ _ _ .same .nil)) (.old 16 224 _ _ _ rfl rfl (.vars _ _ (LeL_refl rfl)) .nil) rfl (sat_spec g c a) ?_
            rintro H r ⟨rfl, rfl⟩ _ _
            refine ⟨rfl, .inl rfl, ?_⟩
            show ARet _ _ _
            exact ret_d rfl ⟨rfl, rfl⟩
          | none =>
            show ABr _ _ _
            refine ⟨fun h => absurd h (by simp), fun _ => ?_⟩
            show ACall _ _ _ _ _ _
            refine .hand [(224, 16)] [(16, .vars (wkV g c))] [.c (.ptr 16 0 0)] _ (.cons _ _ _ _ (.c _ _ (.ptr _ _ _ _ rfl)) .nil) (.old 16 224 _ _ _ rfl rfl (.vars _ _ (LeL_refl rfl)) .nil) rfl (send_spec g c hl hm h0 hc) ?_
            rintro H r ⟨rfl, rfl⟩ _ _
            refine ⟨rfl, .inl rfl, ?_⟩
            show ARet _ _ _
            exact ret_d rfl ⟨rfl, rfl⟩
        · show ABr (!decide (c.at_ = 0)) _ _
          rw [if_pos ha, decide_eq_false ha]
          show ABr _ _ _
          refine ⟨fun _ => ?_, fun h => absurd h (by decide)⟩
          show ACall _ _ _ _ _ _
          refine .hand [(224, 16)] [(16, .vars (wkV g c))] [.c (.ptr 16 0 0)] _ (.cons _ _ _ _ (.c _ _ (.ptr _ _ _ _ rfl)) .nil) (.old 16 224 _ _ _ rfl rfl (.vars _ _ (LeL_refl rfl)) .nil) rfl (sfield_spec g c hl hs hk) ?_
          rintro H r ⟨rfl, rfl⟩ _ _
          refine ⟨rfl, .inl rfl, ?_⟩
          show ARet _ _ _
          exact ret_d rfl ⟨rfl, rfl⟩
  · rw [if_neg hx]
    have hc0 : (bif (bif !mayH g [] then true else !decide (c.phase = 4)) then true else decide (c.card < 0)) = true := by
      cases hm : mayH g [] with
      | false => rfl
      | true =>
        by_cases hp : c.phase = 4
        · have : c.card < 0 := by
            apply Classical.byContradiction
            intro h; exact hx ⟨hm, hp, by omega⟩
          rw [decide_eq_true hp, decide_eq_true this]; rfl
        · rw [decide_eq_false hp]; rfl
    refine ⟨fun _ => ?_, fun h => absurd (hc0.symm.trans h) (by decide)⟩
    show ARet _ _ _
    exact ret_d rfl ⟨rfl, rfl⟩
end Go.Abs
