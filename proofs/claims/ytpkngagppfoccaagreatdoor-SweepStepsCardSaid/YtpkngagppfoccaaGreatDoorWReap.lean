/- Walks: room is given back. -/
import Derived.Test.YtpkngagppfoccaaGreatDoorWShade
import Derived.Test.YtpkngagppfoccaaGreatDoorWPart
import Derived.Test.YtpkngagppfoccaaGreatDoorWCards
import Derived.Test.YtpkngagppfoccaaGreatDoorWFreeN
set_option linter.all false
set_option linter.unusedVariables false
set_option linter.unusedSimpArgs false
namespace Go.Abs
open Go.Proofs Go.Proofs.YtpkngagppfoccaaGreatDoor
set_option maxRecDepth 8000

def rkV (g : Hp) : List CV := g.enc.map .d

theorem begun_spec (g : Hp) (hs : g.small) : Spec X 117 [] [g.tv] (Ret [(0, .vars (rkV g))] (.c (.ptr 0 0 0))) := by
  refine spec_go X_ok Tryz.f117 (by kernel_rfl) (by kernel_rfl) (by kernel_rfl) fun hb hH => ⟨rfl, ?_⟩
  obtain ⟨h1, h2, h3, h4, h5, h6⟩ := hs
  show ADCall _ _ _ _ _ _
  refine .mk _ _ (CloneInts_spec g.w h1) rfl ?_
  show ADCall _ _ _ _ _ _
  refine .mk _ _ (ClonePages_spec g.pages h2) rfl ?_
  show ADCall _ _ _ _ _ _
  refine .mk _ _ (CloneBools_spec g.cards h3) rfl ?_
  show ∃ n, _
  refine ⟨4, ?_⟩
  show ALoop _ _ _ _
  refine .next ?_
  show ABr _ _ _
  refine ⟨fun _ => ?_, fun h => absurd h (by decide)⟩
  show AOb _ _
  refine ⟨by decide, ?_⟩
  show ACall _ _ _ _ _ _
  refine call_ret (CloneInts_spec g.free.l0 h4) rfl ?_
  show AOb _ _
  refine ⟨by decide, ?_⟩
  show ALoop _ _ _ _
  refine .next ?_
  show ABr _ _ _
  refine ⟨fun _ => ?_, fun h => absurd h (by decide)⟩
  show AOb _ _
  refine ⟨by decide, ?_⟩
  show ACall _ _ _ _ _ _
  refine call_ret (CloneInts_spec g.free.l1 h5) rfl ?_
  show AOb _ _
  refine ⟨by decide, ?_⟩
  show ALoop _ _ _ _
  refine .next ?_
  show ABr _ _ _
  refine ⟨fun _ => ?_, fun h => absurd h (by decide)⟩
  show AOb _ _
  refine ⟨by decide, ?_⟩
  show ACall _ _ _ _ _ _
  refine call_ret (CloneInts_spec g.free.l2 h6) rfl ?_
  show AOb _ _
  refine ⟨by decide, ?_⟩
  show ALoop _ _ _ _
  refine .next ?_
  show ABr _ _ _
  refine ⟨fun h => absurd h (by decide), fun _ => ?_⟩
  show ARet _ _ _
  exact ⟨[(_, 0)], [(0, .vars (rkV g))], [.c (.ptr 0 0 0)], .cons _ _ _ _ (.c _ _ (.ptr1 _ _ _ _)) .nil, .old 0 _ _ _ _ rfl rfl (.vars _ _ (LeL_refl rfl)) .nil, rfl, rfl, rfl⟩

theorem partN_own (w : List Int) (a n : Int) (hw : mayW w = true) (ha : 16 ≤ a ∧ 0 < n ∧ a + n ≤ 16 + w.length) : Spec X 116 [(16, .data .int w)] [.c (.own 16), .int a, .int n] (fun H r => H = [(16, .data .int w)] ∧ r = .tup [.c (.view 16 (a - 16).toNat n.toNat), .int 0]) := by
  refine spec_go X_ok Tryz.f116 (by kernel_rfl) (by kernel_rfl) (by kernel_rfl) fun hb hH => ⟨rfl, ?_⟩
  show ACall _ _ _ _ _ _
  refine call_ret (aMay_spec w) rfl ?_
  rw [hw]
  show ABr (!true) _ _
  show ABr _ _ _
  refine ⟨fun h => absurd h (by decide), fun _ => ?_⟩
  show ABr (decide (n < 0)) _ _
  refine ⟨fun h => absurd (of_decide_eq_true h) (by omega), fun _ => ?_⟩
  have h1 : w.length ≤ 1024 := by have := of_decide_eq_true hw; omega
  have e1 : IntKind.i64.wrap (a - 16) = a - 16 := wrap64 (by omega) (by omega)
  have e2 : IntKind.i64.wrap ((w.length : Int) - (a - 16)) = w.length - (a - 16) := wrap64 (by omega) (by omega)
  show ABr (bif decide (n > 0) then (bif (bif decide (a < 16) then true else decide (IntKind.i64.wrap (a - 16) ≥ (w.length : Int))) then true else decide (n > IntKind.i64.wrap ((w.length : Int) - IntKind.i64.wrap (a - 16)))) else false) _ _
  rw [e1, e2]
  refine ⟨fun h => ?_, fun _ => ?_⟩
  · exfalso
    have g1 : decide (a < 16) = false := decide_eq_false (by omega)
    have g2 : decide (a - 16 ≥ (w.length : Int)) = false := decide_eq_false (by omega)
    have g3 : decide (n > (w.length : Int) - (a - 16)) = false := decide_eq_false (by omega)
    rw [g1, g2, g3] at h
    cases hn : decide (n > 0) <;> rw [hn] at h <;> exact absurd h (by decide)
  · show ABr (decide (n = 0)) _ _
    refine ⟨fun h => absurd (of_decide_eq_true h) (by omega), fun _ => ?_⟩
    show AOb ((0 : Int) ≤ IntKind.i64.wrap (a - 16) ∧ IntKind.i64.wrap (a - 16) ≤ (w.length : Int)) _
    rw [e1]
    refine ⟨by omega, ?_⟩
    show AOb ((0 : Int) ≤ n ∧ n ≤ n ∧ n ≤ ((((w.length : Int) - (a - 16)).toNat : Nat) : Int)) _
    refine ⟨by omega, ?_⟩
    show ARet _ _ _
    exact ⟨[(16, 16)], [(16, .data .int w)], [.c (.view 16 (a - 16).toNat n.toNat), .int 0], .cons _ _ _ _ (.view_eq2 (o := (a - 16).toNat + 0) (n := (n - 0).toNat) (by simp [nmOf]) rfl (by omega)) (.cons _ _ _ _ .same .nil), .old 16 16 _ _ _ rfl rfl (.data_eq rfl) .nil, rfl, rfl, rfl⟩

theorem aZero_spec (w : List Int) (a n : Int) (hw : mayW w = true) (ha : 16 ≤ a ∧ 0 < n ∧ a + n ≤ 16 + w.length) : Spec X 118 [] [.c (.d (.sl .int w)), .int a, .int n] (Ret [] (.tup [.c (.d (.sl .int (splice w (a - 16).toNat (List.replicate n.toNat (0 : Int))))), .int 0])) := by
  refine spec_go X_ok Tryz.f118 (by kernel_rfl) (by kernel_rfl) (by kernel_rfl) fun hb hH => ⟨rfl, ?_⟩
  have h1 : 16 ≤ w.length ∧ w.length ≤ 1024 := by have := of_decide_eq_true hw; omega
  show ACall _ _ _ _ _ _
  refine .mk _ (CloneIntsOwn_spec w (by unfold most; omega) (by intro e; subst e; simp at h1)) fun H r ⟨eH, er⟩ _ _ => ⟨.inl rfl, ?_⟩
  subst eH er
  refine .hand [(_, 16)] [(16, .data .int w)] [.c (.own 16), .int a, .int n] _ (.cons _ _ _ _ (.c _ _ (.own1 _ _)) (.cons _ _ _ _ .same (.cons _ _ _ _ .same .nil))) (.old 16 _ _ _ _ rfl rfl (.data_eq rfl) .nil) rfl (partN_own w a n hw ha) ?_
  rintro H r ⟨rfl, rfl⟩ _ _
  refine ⟨rfl, .inl rfl, ?_⟩
  show ABr _ _ _
  refine ⟨fun h => absurd h (by decide), fun _ => ?_⟩
  show ARet _ _ _
  exact ⟨[], [], [.c (.d (.sl .int (splice w (a - 16).toNat (List.replicate n.toNat (0 : Int))))), .int 0], .cons _ _ _ _ (.frz (k := .int) (l := splice w (a - 16).toNat (List.replicate n.toNat (0 : Int))) rfl rfl) (.cons _ _ _ _ .same .nil), .nil, rfl, rfl, rfl⟩

theorem ClonePagesOwn_spec (l : List Page) (h : l.length ≤ most) (hne : l ≠ []) : Spec X 59 [] [.c (.d (.sl .page l))] (Ret [(0, .data .page l)] (.c (.own 0))) := by
  refine spec_go X_ok Tryz.f59 (by kernel_rfl) (by kernel_rfl) (by kernel_rfl) fun hb _ => ⟨rfl, ?_⟩
  intro b (hnil : b = true → l = [])
  show ABr _ _ _
  refine ⟨fun hb => absurd (hnil hb) hne, fun hb => ?_⟩
  show AOb (0 + l.length ≤ most) _
  refine ⟨by omega, ?_⟩
  show ARet _ _ _
  exact ⟨[(_, 0)], [(0, .data .page l)], [.c (.own 0)], .cons _ _ _ _ (.c _ _ (.own1 _ _)) .nil, .old 0 _ _ _ _ rfl rfl (.data_eq rfl) .nil, rfl, rfl, rfl⟩

theorem pput_spec (l o : List Page) (i : Int) (hm : mayP l = true) (h0 : 0 ≤ i) (h1 : i < (l.length : Int)) : Spec X 152 [] [.c (.d (.sl .page l)), .int i, .c (.d (.sl .page o))] (Ret [] (.c (.d (.sl .page (putP l i.toNat o))))) := by
  refine spec_go X_ok Tryz.f152 (by kernel_rfl) (by kernel_rfl) (by kernel_rfl) fun hb hH => ⟨rfl, ?_⟩
  have hb := hb (.c (.d (.sl .page l))) (by simp)
  have hl : l.length ≤ maxN := hb.1
  show ACall _ _ _ _ _ _
  refine .mk _ (ClonePagesOwn_spec l (by have := (mayP_ok hm).2.2; unfold most; omega) (by intro e; subst e; simp at h1; omega)) fun H r ⟨eH, er⟩ _ _ => ⟨.inl rfl, ?_⟩
  subst eH er
  show AOb ((0 : Int) ≤ i ∧ i ≤ (l.length : Int)) _
  refine ⟨by omega, ?_⟩
  show ARet _ _ _
  have e : splice l i.toNat (o.take ((l.length : Int) - i).toNat) = putP l i.toNat o := by unfold putP; rw [show ((l.length : Int) - i).toNat = l.length - i.toNat by omega]
  exact ⟨[], [], [.c (.d (.sl .page (putP l i.toNat o)))], .cons _ _ _ _ (.c _ _ (.frz_eq (k := .page) (l := splice l i.toNat (o.take ((l.length : Int) - i).toNat)) rfl e)) .nil, .nil, rfl, rfl, rfl⟩

theorem drops_fit {l : List Page} {i : Nat} (h : Drops l i) : pageFits (l.getD i default) = true := by
  have hp := (mayP_ok h.may).1 i h.lt
  rcases h.kind with hk | hk
  · have := hp.1 hk
    exact decide_eq_true (.inr (.inl ⟨hk, this⟩))
  · have := hp.2 hk
    exact decide_eq_true (.inr (.inr ⟨hk, this⟩))

theorem pDrop_spec (l : List Page) (i : Int) (h0 : 0 ≤ i) (hd : Drops l i.toNat) : Spec X 142 [] [.c (.d (.sl .page l)), .int i] (Ret [] (.tup [.c (.d (.sl .page (dropP l i.toNat))), .int 0])) := by
  refine spec_go X_ok Tryz.f142 (by kernel_rfl) (by kernel_rfl) (by kernel_rfl) fun hb hH => ⟨rfl, ?_⟩
  have hlt := hd.lt
  show ACall _ _ _ _ _ _
  refine call_ret (pMay_spec l) rfl ?_
  rw [hd.may]
  show ABr (!true) _ _
  show ABr _ _ _
  refine ⟨fun h => absurd h (by decide), fun _ => ?_⟩
  show ABr (decide (i < 0)) _ _
  rw [decide_eq_false (by omega)]
  show ABr _ _ _
  refine ⟨fun h => absurd h (by decide), fun _ => ?_⟩
  show ABr (decide (i ≥ (l.length : Int))) _ _
  rw [decide_eq_false (by omega)]
  show ABr _ _ _
  refine ⟨fun h => absurd h (by decide), fun _ => ?_⟩
  show AOb ((0 : Int) ≤ i ∧ i < (l.length : Int)) _
  refine ⟨by omega, ?_⟩
  have hk := hd.kind
  have hf := drops_fit hd
  obtain ⟨a1, a2, _, _⟩ := hd.all
  show ABr ((l.getD i.toNat default).kind == 0) _ _
  rw [show ((l.getD i.toNat default).kind == 0) = false by simp only [beq_eq_false_iff_ne]; omega]
  show ABr _ _ _
  refine ⟨fun h => absurd h (by decide), fun _ => ?_⟩
  show AOb ((0 : Int) ≤ i ∧ i < (l.length : Int)) _
  refine ⟨by omega, ?_⟩
  show ABr ((l.getD i.toNat default).kind == 3) _ _
  rw [show ((l.getD i.toNat default).kind == 3) = false by simp only [beq_eq_false_iff_ne]; omega]
  show ABr _ _ _
  refine ⟨fun h => absurd h (by decide), fun _ => ?_⟩
  show AOb ((0 : Int) ≤ i ∧ i < (l.length : Int)) _
  refine ⟨by omega, ?_⟩
  show ABr ((l.getD i.toNat default).kind == 2) _ _
  unfold dropP
  unfold sizeP at a1 a2 ⊢
  by_cases h2 : (l.getD i.toNat default).kind = 2
  · rw [if_pos h2] at a1 a2 ⊢
    rw [show ((l.getD i.toNat default).kind == 2) = true by simp only [beq_iff_eq]; exact h2]
    show ABr _ _ _
    refine ⟨fun _ => ?_, fun h => absurd h (by decide)⟩
    show AOb ((0 : Int) ≤ i ∧ i < (l.length : Int)) _
    refine ⟨by omega, ?_⟩
    have hfk := (of_decide_eq_true hf : _)
    have hln := (mayP_ok hd.may).2.2
    show AOb ((0 : Int) ≤ (l.getD i.toNat default).arg ∧ (l.getD i.toNat default).arg ≤ (l.getD i.toNat default).arg ∧ (l.getD i.toNat default).arg ≤ ((most : Nat) : Int)) _
    refine ⟨by unfold most; omega, ?_⟩
    show ACall _ _ _ _ _ _
    refine .frz [1440] [] [.c (.d (.sl .page l)), .int i, .c (.d (.sl .page (List.replicate (l.getD i.toNat default).arg.toNat ⟨0, 0⟩)))] _ rfl .nil (.cons _ _ _ _ (.c _ _ (.same _)) (.cons _ _ _ _ (.c _ _ (.same _)) (.cons _ _ _ _ (.c _ _ (.frz _ _ rfl)) .nil))) rfl (pput_spec l (List.replicate (l.getD i.toNat default).arg.toNat ⟨0, 0⟩) i hd.may h0 (by omega)) ?_
    rintro H r ⟨rfl, rfl⟩ _ _
    show ARet _ _ _
    exact ret_d rfl ⟨rfl, rfl⟩
  · rw [if_neg h2] at a1 a2 ⊢
    rw [show ((l.getD i.toNat default).kind == 2) = false by simp only [beq_eq_false_iff_ne]; exact h2]
    show ABr _ _ _
    refine ⟨fun h => absurd h (by decide), fun _ => ?_⟩
    show AOb ((0 : Int) ≤ (1:Int) ∧ (1:Int) ≤ (1:Int) ∧ (1:Int) ≤ ((most : Nat) : Int)) _
    refine ⟨by unfold most; omega, ?_⟩
    show ACall _ _ _ _ _ _
    refine .frz [1248] [] [.c (.d (.sl .page l)), .int i, .c (.d (.sl .page (List.replicate 1 ⟨0, 0⟩)))] _ rfl .nil (.cons _ _ _ _ (.c _ _ (.same _)) (.cons _ _ _ _ (.c _ _ (.same _)) (.cons _ _ _ _ (.c _ _ (.frz _ _ rfl)) .nil))) rfl (pput_spec l (List.replicate 1 ⟨0, 0⟩) i hd.may h0 (by omega)) ?_
    rintro H r ⟨rfl, rfl⟩ _ _
    show ARet _ _ _
    exact ret_d rfl ⟨rfl, rfl⟩

theorem wdrop_spec (g : Hp) (i : Int) (h0 : 0 ≤ i) (hd : Drops g.pages i.toNat) : Spec X 122 [(16, .vars (rkV g))] [.c (.ptr 16 0 0), .int i] (fun H r => H = [(16, .vars (rkV { g with pages := dropP g.pages i.toNat }))] ∧ r = .tup []) := by
  refine spec_go X_ok Tryz.f122 (by kernel_rfl) (by kernel_rfl) (by kernel_rfl) fun hb hH => ⟨rfl, ?_⟩
  show ACall _ _ _ _ _ _
  refine call_ret (pDrop_spec g.pages i h0 hd) rfl ?_
  show ARet _ _ _
  exact ⟨[(16, 16)], [(16, .vars (rkV { g with pages := dropP g.pages i.toNat }))], [], .nil, .old 16 16 _ _ _ rfl rfl (.vars _ _ (LeL_refl rfl)) .nil, rfl, rfl, rfl⟩

theorem free1_spec (g : Hp) (i a : Int) (h0 : 0 ≤ i) (hd : Drops g.pages i.toNat) : Spec X 121 [(16, .vars (rkV g))] [.c (.ptr 16 0 0), .int i, .int a] (fun H r => H = [(16, .vars (rkV { g with pages := dropP g.pages i.toNat }))] ∧ r = .tup []) := by
  refine spec_go X_ok Tryz.f121 (by kernel_rfl) (by kernel_rfl) (by kernel_rfl) fun hb hH => ⟨rfl, ?_⟩
  show ACall _ _ _ _ _ _
  refine .hand [(16, 16)] [(16, .vars (rkV g))] [.c (.ptr 16 0 0), .int i] _ (.cons _ _ _ _ (.c _ _ (.ptr _ _ _ _ rfl)) (.cons _ _ _ _ .same .nil)) (.old 16 16 _ _ _ rfl rfl (.vars _ _ (LeL_refl rfl)) .nil) rfl (wdrop_spec g i h0 hd) ?_
  rintro H r ⟨rfl, rfl⟩ _ _
  refine ⟨rfl, .inl rfl, ?_⟩
  show ARet _ _ _
  exact ⟨[(16, 16)], [(16, .vars (rkV { g with pages := dropP g.pages i.toNat }))], [], .nil, .old 16 16 _ _ _ rfl rfl (.vars _ _ (LeL_refl rfl)) .nil, rfl, rfl, rfl⟩

theorem wback_spec (g : Hp) (i : Int) (h0 : 0 ≤ i) (hd : Drops g.pages i.toNat) (hk : (g.pages.getD i.toNat default).kind = 1) (hok : g.free.ok) : Spec X 141 [(16, .vars (rkV g))] [.c (.ptr 16 0 0), .int i] (fun H r => H = [(16, .vars (rkV (backH g i)))] ∧ r = .tup []) := by
  refine spec_go X_ok Tryz.f141 (by kernel_rfl) (by kernel_rfl) (by kernel_rfl) fun hb hH => ⟨rfl, ?_⟩
  have hlt := hd.lt
  show AOb ((0 : Int) ≤ i ∧ i < (g.pages.length : Int)) _
  refine ⟨by omega, ?_⟩
  show ABr ((g.pages.getD i.toNat default).kind != 1) _ _
  rw [show ((g.pages.getD i.toNat default).kind != 1) = false by rw [hk]; rfl]
  show ABr _ _ _
  refine ⟨fun h => absurd h (by decide), fun _ => ?_⟩
  have hl64 := (mayP_ok hd.may).2.2
  have e0 : IntKind.i64.wrap (i + 1) = i + 1 := wrap64 (by omega) (by omega)
  have e1 : IntKind.i64.wrap (IntKind.i64.wrap (i + 1) * 16) = 16 * (i + 1) := by rw [e0, wrap64 (by omega) (by omega)]; omega
  have e2 : IntKind.i64.wrap (IntKind.i64.wrap (IntKind.i64.wrap (i + 1) * 16) + 16) = 16 * (i + 1) + 16 := by rw [e1, wrap64 (by omega) (by omega)]
  have sp : Spec X 151 [] [g.free.tv, .int (g.pages.getD i.toNat default).arg, .int (IntKind.i64.wrap (IntKind.i64.wrap (i + 1) * 16)), .int (IntKind.i64.wrap (IntKind.i64.wrap (IntKind.i64.wrap (i + 1) * 16) + 16))] (Ret [] (.tup [(g.free.set_ (g.pages.getD i.toNat default).arg (staysH g i)).tv, .c (.d (.sl .int (outsH g i))), .int 0])) := by
    rw [e2, e1]
    exact Part_spec g.free _ _ _ (((mayP_ok hd.may).1 i.toNat hlt).1 hk) hok
  show ADCall _ _ _ _ _ _
  refine .mk _ _ (sp) rfl ?_
  show ACall _ _ _ _ _ _
  refine call_ret (cCells_spec (g.pages.getD i.toNat default).arg) rfl ?_
  show ABr (decide (((outsH g i).length : Int) = clsN (g.pages.getD i.toNat default).arg)) _ _
  unfold backH
  by_cases hn : ((outsH g i).length : Int) = clsN (g.pages.getD i.toNat default).arg
  · rw [if_pos hn, decide_eq_true hn]
    show ABr _ _ _
    refine ⟨fun _ => ?_, fun h => absurd h (by decide)⟩
    show ACall _ _ _ _ _ _
    refine .hand [(16, 16)] [(16, .vars (rkV { g with free := g.free.set_ (g.pages.getD i.toNat default).arg (staysH g i) }))] [.c (.ptr 16 0 0), .int i] _ (.cons _ _ _ _ (.c _ _ (.ptr _ _ _ _ rfl)) (.cons _ _ _ _ .same .nil)) (.old 16 16 _ _ _ rfl rfl (.vars _ _ (LeL_refl rfl)) .nil) rfl (wdrop_spec { g with free := g.free.set_ (g.pages.getD i.toNat default).arg (staysH g i) } i h0 hd) ?_
    rintro H r ⟨rfl, rfl⟩ _ _
    refine ⟨rfl, .inl rfl, ?_⟩
    show ARet _ _ _
    exact ⟨[(16, 16)], [(16, .vars (rkV { g with free := g.free.set_ (g.pages.getD i.toNat default).arg (staysH g i), pages := dropP g.pages i.toNat }))], [], .nil, .old 16 16 _ _ _ rfl rfl (.vars _ _ (LeL_refl rfl)) .nil, rfl, rfl, rfl⟩
  · rw [if_neg hn, decide_eq_false hn]
    show ABr _ _ _
    refine ⟨fun h => absurd h (by decide), fun _ => ?_⟩
    show ARet _ _ _
    exact ⟨[(16, 16)], [(16, .vars (rkV g))], [], .nil, .old 16 16 _ _ _ rfl rfl (.vars _ _ (LeL_refl rfl)) .nil, rfl, rfl, rfl⟩

theorem ok_set {l : Lists} {c : Int} {x : List Int} (h : l.ok) (hx : x.length ≤ most) : (l.set_ c x).ok := by
  obtain ⟨h1, h2, h3⟩ := h
  unfold Lists.set_
  split
  · exact ⟨hx, h2, h3⟩
  · split
    · exact ⟨h1, hx, h3⟩
    · exact ⟨h1, h2, hx⟩

theorem small_ok {g : Hp} (hs : g.small) : g.free.ok := by
  exact hs.2.2.2

theorem wpush_spec (g : Hp) (i a : Int) (h0 : 0 ≤ i) (hd : Drops g.pages i.toNat) (hk : (g.pages.getD i.toNat default).kind = 1) (hs : g.small) (h1 : (g.free.at_ (g.pages.getD i.toNat default).arg).length < most) :
    Spec X 120 [(16, .vars (rkV g))] [.c (.ptr 16 0 0), .int i, .int a] (fun H r => H = [(16, .vars (rkV (backH (pushH g i a) i)))] ∧ r = .tup []) := by
  refine Spec.fz (spec_go Xf_ok Tryz.f120 (by kernel_rfl) (by kernel_rfl) (by kernel_rfl) fun hb hH => ⟨rfl, ?_⟩)
  have hlt := hd.lt
  have harg := ((mayP_ok hd.may).1 i.toNat hlt).1 hk
  show AOb ((0 : Int) ≤ i ∧ i < (g.pages.length : Int)) _
  refine ⟨by omega, ?_⟩
  show ADCall _ _ _ _ _ _
  refine .mk _ _ ((Push_spec g.free (g.pages.getD i.toNat default).arg [a] harg (small_ok hs) h1).uz) rfl ?_
  show ACall _ _ _ _ _ _
  refine .hand [(16, 16)] [(16, .vars (rkV (pushH g i a)))] [.c (.ptr 16 0 0), .int i] _ (.cons _ _ _ _ (.c _ _ (.ptr _ _ _ _ rfl)) (.cons _ _ _ _ .same .nil)) (.old 16 16 _ _ _ rfl rfl (.vars _ _ (LeL_refl rfl)) .nil) rfl (wback_spec (pushH g i a) i h0 hd hk (ok_set (small_ok hs) (by rw [List.length_append]; exact h1))).uz ?_
  rintro H r ⟨rfl, rfl⟩ _ _
  refine ⟨rfl, .inl rfl, ?_⟩
  show ARet _ _ _
  exact ⟨[(16, 16)], [(16, .vars (rkV (backH (pushH g i a) i)))], [], .nil, .old 16 16 _ _ _ rfl rfl (.vars _ _ (LeL_refl rfl)) .nil, rfl, rfl, rfl⟩

theorem number_spec (a : Int) (h : 0 ≤ a) (h' : a < 9223372036854775808) : Spec X 119 [] [.int a] (Ret [] (.int (pgI a))) := by
  refine spec_go X_ok Tryz.f119 (by kernel_rfl) (by kernel_rfl) (by kernel_rfl) fun hb hH => ⟨rfl, ?_⟩
  show AOb _ _
  refine ⟨by decide, ?_⟩
  show ARet _ _ _
  refine ret_int (x := IntKind.i64.wrap (tdv a 16 - 1)) ?_ ⟨rfl, rfl⟩
  rw [tdv_eq h (by omega) h']
  exact wrap64 (by omega) (by omega)

set_option maxRecDepth 60000 in
set_option maxHeartbeats 2000000 in
theorem Free_spec (g : Hp) (a : Int) (hl : g.light) (hs : g.small) : Spec X 97 [] [g.tv, .int a] (Ret [] (.tup [(freeH g a).tv, .int (headE g a)])) := by
  refine spec_go X_ok Tryz.f97 (by kernel_rfl) (by kernel_rfl) (by kernel_rfl) fun hb hH => ⟨rfl, ?_⟩
  show ACall _ _ _ _ _ _
  refine call_ret (hHead_spec g a hl) rfl ?_
  unfold freeH
  by_cases h : headE g a = 0
  · show ABr (!decide (headE g a = 0)) _ _
    rw [decide_eq_true h, if_pos h]
    show ABr _ _ _
    refine ⟨fun h => absurd h (by decide), fun _ => ?_⟩
    obtain ⟨hm, hr, _⟩ := headE_of h
    obtain ⟨hn0, hd⟩ := head_drops h
    show ACall _ _ _ _ _ _
    refine .mk _ (begun_spec g hs) fun H r ⟨eH, er⟩ _ _ => ⟨.inl rfl, ?_⟩
    subst eH er
    obtain ⟨z1, z2, z3, z4⟩ := head_room h
    obtain ⟨_, _, hwl, _, _, hl64⟩ := shapedH_of (mayH_shaped hm)
    have hlt := hd.lt
    have hwl' : (freeW g a).length = g.w.length := freeW_len h
    have hs' : ({ g with w := freeW g a } : Hp).small := ⟨by show (freeW g a).length ≤ most; rw [hwl']; exact hs.1, hs.2⟩
    show ADCall _ _ _ _ _ _
    refine .mk _ _ (Room_spec g.pages a) rfl ?_
    show ADCall _ _ _ _ _ _
    refine .mk _ _ (aZero_spec g.w a (roomAt g.pages a) z1 ⟨z2, z3, z4⟩) rfl ?_
    show ACall _ _ _ _ _ _
    refine call_ret (number_spec a (by omega) (by unfold pgI at hlt hn0; omega)) rfl ?_
    show AOb ((0 : Int) ≤ pgI a ∧ pgI a < (g.pages.length : Int)) _
    refine ⟨by omega, ?_⟩
    show ABr ((g.pages.getD (pgI a).toNat default).kind == 2) _ _
    by_cases hk : (g.pages.getD (pgI a).toNat default).kind = 2
    · rw [if_pos hk, show ((g.pages.getD (pgI a).toNat default).kind == 2) = true by simp only [beq_iff_eq]; exact hk]
      show ABr _ _ _
      refine ⟨fun _ => ?_, fun h => absurd h (by decide)⟩
      show ACall _ _ _ _ _ _
      refine .hand [(512, 16)] [(16, .vars (rkV { g with w := freeW g a }))] [.c (.ptr 16 0 0), .int (pgI a), .int a] _ (.cons _ _ _ _ (.c _ _ (.ptr _ _ _ _ rfl)) (.cons _ _ _ _ .same (.cons _ _ _ _ .same .nil))) (.old 16 512 _ _ _ rfl rfl (.vars _ _ (LeL_refl rfl)) .nil) rfl (free1_spec { g with w := freeW g a } (pgI a) a hn0 hd) ?_
      rintro H r ⟨rfl, rfl⟩ _ _
      refine ⟨rfl, .inl rfl, ?_⟩
      show ARet _ _ _
      exact ret_d rfl ⟨rfl, by rw [h]; rfl⟩
    · rw [if_neg hk, show ((g.pages.getD (pgI a).toNat default).kind == 2) = false by simp only [beq_eq_false_iff_ne]; exact hk]
      show ABr _ _ _
      refine ⟨fun h => absurd h (by decide), fun _ => ?_⟩
      show ACall _ _ _ _ _ _
      refine .hand [(512, 16)] [(16, .vars (rkV { g with w := freeW g a }))] [.c (.ptr 16 0 0), .int (pgI a), .int a] _ (.cons _ _ _ _ (.c _ _ (.ptr _ _ _ _ rfl)) (.cons _ _ _ _ .same (.cons _ _ _ _ .same .nil))) (.old 16 512 _ _ _ rfl rfl (.vars _ _ (LeL_refl rfl)) .nil) rfl (wpush_spec { g with w := freeW g a } (pgI a) a hn0 hd (hd.kind.resolve_right hk) hs' (Nat.lt_of_le_of_lt (may_at hm _) (by unfold most; omega))) ?_
      rintro H r ⟨rfl, rfl⟩ _ _
      refine ⟨rfl, .inl rfl, ?_⟩
      show ARet _ _ _
      exact ret_d rfl ⟨rfl, by rw [h]; rfl⟩
  · show ABr (!decide (headE g a = 0)) _ _
    rw [decide_eq_false h, if_neg h]
    show ABr _ _ _
    refine ⟨fun _ => ?_, fun h => absurd h (by decide)⟩
    show ARet _ _ _
    exact ⟨[], [], _, .cons _ _ _ _ (.agg _ _ (.cons _ _ _ _ (.nilsl .int) (.cons _ _ _ _ (.nilsl .page) (.cons _ _ _ _ (.nilsl .int) (.cons _ _ _ _ (.nilsl .int) (.cons _ _ _ _ (.nilsl .int) (.cons _ _ _ _ (.nilsl .bool) .nil))))))) (.cons _ _ _ _ .same .nil), .nil, rfl, rfl, rfl⟩
end Go.Abs
