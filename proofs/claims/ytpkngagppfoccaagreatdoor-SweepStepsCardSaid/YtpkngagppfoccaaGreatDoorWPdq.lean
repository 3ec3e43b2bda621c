/- Walks: the library's sort, of any length. -/
import Derived.Test.YtpkngagppfoccaaGreatDoorWParts
import Derived.Test.YtpkngagppfoccaaGreatDoorWBreak
import Derived.Test.YtpkngagppfoccaaGreatDoorWHeapSort1
set_option linter.all false
set_option linter.unusedVariables false
set_option linter.unusedSimpArgs false
namespace Go.Abs
open Go.Proofs Go.Proofs.YtpkngagppfoccaaGreatDoor
set_option maxRecDepth 8000

set_option maxHeartbeats 4000000 in
theorem pdq_all : ∀ (n : Nat) (l : List Int) (a b : Nat) (lim : Int), b - a ≤ n → a ≤ b → b ≤ l.length → Lws l a b → Spec X 113 (hp16 l) [.c (.own 16), .int a, .int b, .int lim] (SortQ l a b) := by
  intro n
  induction n using Nat.strongRecOn with
  | _ n ih =>
  intro l a b lim hn hab hbl hlow
  refine spec_go X_ok Tryz.f113 (by kernel_rfl) (by kernel_rfl) (by kernel_rfl) fun hb hH => ⟨rfl, ?_⟩
  have hmax : l.length ≤ maxN := hH 16 .int l rfl
  have hmx : l.length ≤ 140737488355328 := hmax
  show ∃ n, _
  refine ⟨0, ALoop.inv (ι := {p : List Int × Nat × Nat × Int × Bool × Bool // PQ l p.1 a b p.2.1 p.2.2.1}) (fun p => ⟨[(0, .c (.own 16)), (1, .int p.1.2.1), (2, .int p.1.2.2.1), (3, .int p.1.2.2.2.1), (8, .bo p.1.2.2.2.2.1), (9, .bo p.1.2.2.2.2.2)], [(16, .data .int p.1.1)], 64⟩) (fun p => p.1.2.2.1 - p.1.2.1) ⟨(l, a, b, lim, true, true), PQ.start l hab⟩ ?_ ?_⟩
  · exact ⟨[(16, 16)], .cons _ _ _ (.c _ _ (.own _ _ rfl)) (.cons _ _ _ .same (.cons _ _ _ .same (.cons _ _ _ .same (.cons _ _ _ .same (.cons _ _ _ .same .nil))))), .old 16 16 _ _ _ rfl rfl (.data_eq rfl) .nil, rfl⟩
  · rintro ⟨⟨m, c, d, lim, x, y⟩, hP⟩
    have hP : PQ l m a b c d := hP
    have hml : m.length = l.length := hP.srt.len
    have hac : a ≤ c := hP.ac
    have hcd : c ≤ d := hP.cd
    have hdb : d ≤ b := hP.db
    have hw : IntKind.i64.wrap ((d : Int) - (c : Int)) = ((d - c : Nat) : Int) := wrapN (by omega) (by omega)
    show ABr (decide (IntKind.i64.wrap ((d : Int) - (c : Int)) ≤ 12)) _ _
    refine ⟨fun _ => ?_, fun hx => ?_⟩
    · skip
      show ACall _ _ _ _ _ _
      refine .hand [(16, 16)] (hp16 m) [.c (.own 16), .int c, .int d] (SortQ m c d) (.cons _ _ _ _ (.c _ _ (.own _ _ rfl)) (.cons _ _ _ _ .same (.cons _ _ _ _ .same .nil))) (.old 16 16 _ _ _ rfl rfl (.data_eq rfl) .nil) rfl (ins_spec m c d hcd (by omega)) ?_
      rintro H r ⟨rfl, m', rfl, g1, g2⟩ _ _
      refine ⟨rfl, .inr ⟨rfl, rfl⟩, ?_⟩
      show ARet _ _ _
      exact ⟨[(16, 16)], hp16 m', [], .nil, .old 16 16 _ _ _ rfl rfl (.data_eq rfl) .nil, rfl, rfl, m', rfl, (hP.mix hbl g1).srt, (hP.mix hbl g1).done g2⟩
    · have h12 : c + 12 < d := by rw [hw] at hx; simp at hx; omega
      show ABr (decide (lim = 0)) _ _
      refine ⟨fun _ => ?_, fun _ => ?_⟩
      · skip
        show ACall _ _ _ _ _ _
        refine .hand [(16, 16)] (hp16 m) [.c (.own 16), .int c, .int d] (SortQ m c d) (.cons _ _ _ _ (.c _ _ (.own _ _ rfl)) (.cons _ _ _ _ .same (.cons _ _ _ _ .same .nil))) (.old 16 16 _ _ _ rfl rfl (.data_eq rfl) .nil) rfl (heapSort_spec m c d (by omega) (by omega)) ?_
        rintro H r ⟨rfl, m', rfl, g1, g2⟩ _ _
        refine ⟨rfl, .inr ⟨rfl, rfl⟩, ?_⟩
        show ARet _ _ _
        exact ⟨[(16, 16)], hp16 m', [], .nil, .old 16 16 _ _ _ rfl rfl (.data_eq rfl) .nil, rfl, rfl, m', rfl, (hP.mix hbl g1).srt, (hP.mix hbl g1).done g2⟩
      · skip
        cases x
        · show ABr (!false) _ _
          refine ⟨fun _ => ?_, fun hx => absurd hx (by decide)⟩
          show ACall _ _ _ _ _ _
          refine .hand [(16, 16)] (hp16 m) [.c (.own 16), .int c, .int d] _ (.cons _ _ _ _ (.c _ _ (.own _ _ rfl)) (.cons _ _ _ _ .same (.cons _ _ _ _ .same .nil))) (.old 16 16 _ _ _ rfl rfl (.data_eq rfl) .nil) rfl (break_spec m c d h12 (by omega)) ?_
          rintro H r ⟨rfl, mb, rfl, gb⟩ _ _
          refine ⟨rfl, .inr ⟨rfl, rfl⟩, ?_⟩
          have hPP : PQ l mb a b c d := hP.mix hbl gb
          have hmm : mb.length = l.length := hPP.srt.len
          show ACall _ _ _ _ _ _
          refine .hand [(16, 16)] (hp16 mb) [.c (.own 16), .int c, .int d] _ (.cons _ _ _ _ (.c _ _ (.own _ _ rfl)) (.cons _ _ _ _ .same (.cons _ _ _ _ .same .nil))) (.old 16 16 _ _ _ rfl rfl (.data_eq rfl) .nil) rfl (choosePivot_spec mb c d h12 (by omega)) ?_
          rintro H r ⟨q, hint, rfl, rfl, q1, q2⟩ _ _
          refine ⟨rfl, .inr ⟨rfl, rfl⟩, ?_⟩
          show ABr (decide (hint = 2)) _ _
          refine ⟨fun _ => ?_, fun _ => ?_⟩
          · skip
            show ACall _ _ _ _ _ _
            refine .hand [(16, 16)] (hp16 mb) [.c (.own 16), .int c, .int d] (SrtQ mb c d) (.cons _ _ _ _ (.c _ _ (.own _ _ rfl)) (.cons _ _ _ _ .same (.cons _ _ _ _ .same .nil))) (.old 16 16 _ _ _ rfl rfl (.data_eq rfl) .nil) rfl (rev_spec mb c d (by omega) (by omega)) ?_
            rintro H r ⟨rfl, mr, rfl, gr⟩ _ _
            refine ⟨rfl, .inr ⟨rfl, rfl⟩, ?_⟩
            have hPP : PQ l mr a b c d := hPP.mix hbl gr
            have hmm : mr.length = l.length := hPP.srt.len
            have hd1 : IntKind.i64.wrap ((d : Int) - 1) = ((d - 1 : Nat) : Int) := wrapN (by omega) (by omega)
            have hqc : IntKind.i64.wrap ((q : Int) - (c : Int)) = ((q - c : Nat) : Int) := wrapN (by omega) (by omega)
            have hq2 : IntKind.i64.wrap (IntKind.i64.wrap ((d : Int) - 1) - IntKind.i64.wrap ((q : Int) - (c : Int))) = ((d - 1 - (q - c) : Nat) : Int) := wrapN (by rw [hd1, hqc]; omega) (by omega)
            show ABr _ _ _
            refine ⟨fun hx => absurd (show false = true from hx) (by decide), fun _ => ?_⟩
            show ABr (decide ((c : Int) > 0)) _ _
            refine ⟨fun hx => ?_, fun hx => ?_⟩
            · have hc0 : 0 < c := by simp at hx; omega
              have hwc : IntKind.i64.wrap ((c : Int) - 1) = ((c - 1 : Nat) : Int) := wrapN (by omega) (by omega)
              show AOb ((0 : Int) ≤ IntKind.i64.wrap ((c : Int) - 1) ∧ IntKind.i64.wrap ((c : Int) - 1) < (mr.length : Int)) _
              refine ⟨by rw [hwc]; omega, ?_⟩
              show AOb ((IntKind.i64.wrap ((c : Int) - 1)).toNat < mr.length) _
              refine ⟨by rw [hwc]; omega, ?_⟩
              show AOb ((0 : Int) ≤ IntKind.i64.wrap (IntKind.i64.wrap ((d : Int) - 1) - IntKind.i64.wrap ((q : Int) - (c : Int))) ∧ IntKind.i64.wrap (IntKind.i64.wrap ((d : Int) - 1) - IntKind.i64.wrap ((q : Int) - (c : Int))) < (mr.length : Int)) _
              refine ⟨by rw [hq2]; omega, ?_⟩
              show AOb ((IntKind.i64.wrap (IntKind.i64.wrap ((d : Int) - 1) - IntKind.i64.wrap ((q : Int) - (c : Int)))).toNat < mr.length) _
              refine ⟨by rw [hq2]; omega, ?_⟩
              have eq1 : (IntKind.i64.wrap ((c : Int) - 1)).toNat = c - 1 := by rw [hwc]; omega
              have eq2 : (IntKind.i64.wrap (IntKind.i64.wrap ((d : Int) - 1) - IntKind.i64.wrap ((q : Int) - (c : Int)))).toNat = (d - 1 - (q - c)) := by rw [hq2]; omega
              show ADCall _ _ _ _ _ _
              refine .mk [] _ (Less_spec (at0 mr (IntKind.i64.wrap ((c : Int) - 1)).toNat) (at0 mr (IntKind.i64.wrap (IntKind.i64.wrap ((d : Int) - 1) - IntKind.i64.wrap ((q : Int) - (c : Int)))).toNat)) rfl ?_
              rw [eq1, eq2]
              show ABr (!decide (at0 mr (c - 1) < at0 mr (d - 1 - (q - c)))) _ _
              refine ⟨fun hz => ?_, fun _ => ?_⟩
              · skip
                show ACall _ _ _ _ _ _
                refine .hand [(16, 16)] (hp16 mr) [.c (.own 16), .int c, .int d, .int ((d - 1 - (q - c)) : Nat)] _ (.cons _ _ _ _ (.c _ _ (.own _ _ rfl)) (.cons _ _ _ _ .same (.cons _ _ _ _ .same (.cons _ _ _ _ (.int_eq hq2) .nil)))) (.old 16 16 _ _ _ rfl rfl (.data_eq rfl) .nil) rfl (partEq_spec mr c d (d - 1 - (q - c)) (by omega) (by omega) (by omega)) ?_
                rintro H r ⟨mid, m2, rfl, rfl, g⟩ _ _
                refine ⟨rfl, .inr ⟨rfl, rfl⟩, ?_⟩
                show ARound _ _ _ _
                exact ⟨⟨(m2, mid, d, IntKind.i64.wrap (lim - 1), false, y), hPP.eq hbl ((hPP.low hlow hbl).piv hc0 (by simp at hz; omega)) g⟩, by have := g.2.1; show d - mid < d - c; omega, [(16, 16)], .cons _ _ _ (.c _ _ (.own _ _ rfl)) (.cons _ _ _ .same (.cons _ _ _ .same (.cons _ _ _ .same (.cons _ _ _ .same (.cons _ _ _ .same .nil))))), .old 16 16 _ _ _ rfl rfl (.data_eq rfl) .nil, rfl⟩
              · skip
                show ACall _ _ _ _ _ _
                refine .hand [(16, 16)] (hp16 mr) [.c (.own 16), .int c, .int d, .int ((d - 1 - (q - c)) : Nat)] _ (.cons _ _ _ _ (.c _ _ (.own _ _ rfl)) (.cons _ _ _ _ .same (.cons _ _ _ _ .same (.cons _ _ _ _ (.int_eq hq2) .nil)))) (.old 16 16 _ _ _ rfl rfl (.data_eq rfl) .nil) rfl (part_spec mr c d (d - 1 - (q - c)) (by omega) (by omega) (by omega)) ?_
                rintro H r ⟨mid, z, m2, rfl, rfl, g⟩ _ _
                refine ⟨rfl, .inr ⟨rfl, rfl⟩, ?_⟩
                obtain ⟨p1, p2⟩ : c ≤ mid ∧ mid < d := ⟨g.2.1, g.2.2.1⟩
                have hm2 : m2.length = l.length := g.1.len.trans hPP.srt.len
                have hm1 : IntKind.i64.wrap ((mid : Int) + 1) = ((mid + 1 : Nat) : Int) := wrapN (by omega) (by omega)
                show AOb ((8 : Int) ≠ 0) _
                refine ⟨by decide, ?_⟩
                show ABr _ _ _
                refine ⟨fun _ => ?_, fun _ => ?_⟩
                · skip
                  show ACall _ _ _ _ _ _
                  refine .hand [(16, 16)] (hp16 m2) [.c (.own 16), .int c, .int mid, .int _] _ (.cons _ _ _ _ (.c _ _ (.own _ _ rfl)) (.cons _ _ _ _ .same (.cons _ _ _ _ .same (.cons _ _ _ _ .same .nil)))) (.old 16 16 _ _ _ rfl rfl (.data_eq rfl) .nil) rfl (ih (mid - c) (by omega) m2 c mid _ (Nat.le_refl _) p1 (by omega) (g.low_left (hPP.low hlow hbl) (by omega) hcd)) ?_
                  rintro H r ⟨rfl, m3, rfl, g1, g2⟩ _ _
                  refine ⟨rfl, .inr ⟨rfl, rfl⟩, ?_⟩
                  show ARound _ _ _ _
                  exact ⟨⟨(m3, mid + 1, d, IntKind.i64.wrap (lim - 1), decide (IntKind.i64.wrap ((mid : Int) - (c : Int)) ≥ IntKind.i64.wrap ((IntKind.i64.wrap ((d : Int) - (c : Int))).tdiv 8)), z), hPP.left hbl g g1 g2⟩, by show d - (mid + 1) < d - c; omega, [(16, 16)], .cons _ _ _ (.c _ _ (.own _ _ rfl)) (.cons _ _ _ (.int_eq hm1) (.cons _ _ _ .same (.cons _ _ _ .same (.cons _ _ _ .same (.cons _ _ _ .same .nil))))), .old 16 16 _ _ _ rfl rfl (.data_eq rfl) .nil, rfl⟩
                · skip
                  show ACall _ _ _ _ _ _
                  refine .hand [(16, 16)] (hp16 m2) [.c (.own 16), .int (mid + 1 : Nat), .int d, .int _] _ (.cons _ _ _ _ (.c _ _ (.own _ _ rfl)) (.cons _ _ _ _ (.int_eq hm1) (.cons _ _ _ _ .same (.cons _ _ _ _ .same .nil)))) (.old 16 16 _ _ _ rfl rfl (.data_eq rfl) .nil) rfl (ih (d - (mid + 1)) (by omega) m2 (mid + 1) d _ (Nat.le_refl _) (by omega) (by omega) g.low_right) ?_
                  rintro H r ⟨rfl, m3, rfl, g1, g2⟩ _ _
                  refine ⟨rfl, .inr ⟨rfl, rfl⟩, ?_⟩
                  show ARound _ _ _ _
                  exact ⟨⟨(m3, c, mid, IntKind.i64.wrap (lim - 1), decide (IntKind.i64.wrap ((d : Int) - (mid : Int)) ≥ IntKind.i64.wrap ((IntKind.i64.wrap ((d : Int) - (c : Int))).tdiv 8)), z), hPP.right hbl g g1 g2⟩, by show mid - (c) < d - c; omega, [(16, 16)], .cons _ _ _ (.c _ _ (.own _ _ rfl)) (.cons _ _ _ .same (.cons _ _ _ .same (.cons _ _ _ .same (.cons _ _ _ .same (.cons _ _ _ .same .nil))))), .old 16 16 _ _ _ rfl rfl (.data_eq rfl) .nil, rfl⟩
            · show ABr _ _ _
              refine ⟨fun hx => absurd hx (by decide), fun _ => ?_⟩
              show ACall _ _ _ _ _ _
              refine .hand [(16, 16)] (hp16 mr) [.c (.own 16), .int c, .int d, .int ((d - 1 - (q - c)) : Nat)] _ (.cons _ _ _ _ (.c _ _ (.own _ _ rfl)) (.cons _ _ _ _ .same (.cons _ _ _ _ .same (.cons _ _ _ _ (.int_eq hq2) .nil)))) (.old 16 16 _ _ _ rfl rfl (.data_eq rfl) .nil) rfl (part_spec mr c d (d - 1 - (q - c)) (by omega) (by omega) (by omega)) ?_
              rintro H r ⟨mid, z, m2, rfl, rfl, g⟩ _ _
              refine ⟨rfl, .inr ⟨rfl, rfl⟩, ?_⟩
              obtain ⟨p1, p2⟩ : c ≤ mid ∧ mid < d := ⟨g.2.1, g.2.2.1⟩
              have hm2 : m2.length = l.length := g.1.len.trans hPP.srt.len
              have hm1 : IntKind.i64.wrap ((mid : Int) + 1) = ((mid + 1 : Nat) : Int) := wrapN (by omega) (by omega)
              show AOb ((8 : Int) ≠ 0) _
              refine ⟨by decide, ?_⟩
              show ABr _ _ _
              refine ⟨fun _ => ?_, fun _ => ?_⟩
              · skip
                show ACall _ _ _ _ _ _
                refine .hand [(16, 16)] (hp16 m2) [.c (.own 16), .int c, .int mid, .int _] _ (.cons _ _ _ _ (.c _ _ (.own _ _ rfl)) (.cons _ _ _ _ .same (.cons _ _ _ _ .same (.cons _ _ _ _ .same .nil)))) (.old 16 16 _ _ _ rfl rfl (.data_eq rfl) .nil) rfl (ih (mid - c) (by omega) m2 c mid _ (Nat.le_refl _) p1 (by omega) (g.low_left (hPP.low hlow hbl) (by omega) hcd)) ?_
                rintro H r ⟨rfl, m3, rfl, g1, g2⟩ _ _
                refine ⟨rfl, .inr ⟨rfl, rfl⟩, ?_⟩
                show ARound _ _ _ _
                exact ⟨⟨(m3, mid + 1, d, IntKind.i64.wrap (lim - 1), decide (IntKind.i64.wrap ((mid : Int) - (c : Int)) ≥ IntKind.i64.wrap ((IntKind.i64.wrap ((d : Int) - (c : Int))).tdiv 8)), z), hPP.left hbl g g1 g2⟩, by show d - (mid + 1) < d - c; omega, [(16, 16)], .cons _ _ _ (.c _ _ (.own _ _ rfl)) (.cons _ _ _ (.int_eq hm1) (.cons _ _ _ .same (.cons _ _ _ .same (.cons _ _ _ .same (.cons _ _ _ .same .nil))))), .old 16 16 _ _ _ rfl rfl (.data_eq rfl) .nil, rfl⟩
              · skip
                show ACall _ _ _ _ _ _
                refine .hand [(16, 16)] (hp16 m2) [.c (.own 16), .int (mid + 1 : Nat), .int d, .int _] _ (.cons _ _ _ _ (.c _ _ (.own _ _ rfl)) (.cons _ _ _ _ (.int_eq hm1) (.cons _ _ _ _ .same (.cons _ _ _ _ .same .nil)))) (.old 16 16 _ _ _ rfl rfl (.data_eq rfl) .nil) rfl (ih (d - (mid + 1)) (by omega) m2 (mid + 1) d _ (Nat.le_refl _) (by omega) (by omega) g.low_right) ?_
                rintro H r ⟨rfl, m3, rfl, g1, g2⟩ _ _
                refine ⟨rfl, .inr ⟨rfl, rfl⟩, ?_⟩
                show ARound _ _ _ _
                exact ⟨⟨(m3, c, mid, IntKind.i64.wrap (lim - 1), decide (IntKind.i64.wrap ((d : Int) - (mid : Int)) ≥ IntKind.i64.wrap ((IntKind.i64.wrap ((d : Int) - (c : Int))).tdiv 8)), z), hPP.right hbl g g1 g2⟩, by show mid - (c) < d - c; omega, [(16, 16)], .cons _ _ _ (.c _ _ (.own _ _ rfl)) (.cons _ _ _ .same (.cons _ _ _ .same (.cons _ _ _ .same (.cons _ _ _ .same (.cons _ _ _ .same .nil))))), .old 16 16 _ _ _ rfl rfl (.data_eq rfl) .nil, rfl⟩
          · skip
            show ABr _ _ _
            refine ⟨fun hx => absurd (show false = true from hx) (by decide), fun _ => ?_⟩
            show ABr (decide ((c : Int) > 0)) _ _
            refine ⟨fun hx => ?_, fun hx => ?_⟩
            · have hc0 : 0 < c := by simp at hx; omega
              have hwc : IntKind.i64.wrap ((c : Int) - 1) = ((c - 1 : Nat) : Int) := wrapN (by omega) (by omega)
              show AOb ((0 : Int) ≤ IntKind.i64.wrap ((c : Int) - 1) ∧ IntKind.i64.wrap ((c : Int) - 1) < (mb.length : Int)) _
              refine ⟨by rw [hwc]; omega, ?_⟩
              show AOb ((IntKind.i64.wrap ((c : Int) - 1)).toNat < mb.length) _
              refine ⟨by rw [hwc]; omega, ?_⟩
              show AOb ((0 : Int) ≤ (q : Int) ∧ (q : Int) < (mb.length : Int)) _
              refine ⟨by omega, ?_⟩
              show AOb (((q : Int)).toNat < mb.length) _
              refine ⟨by omega, ?_⟩
              have eq1 : (IntKind.i64.wrap ((c : Int) - 1)).toNat = c - 1 := by rw [hwc]; omega
              have eq2 : ((q : Int)).toNat = q := by omega
              show ADCall _ _ _ _ _ _
              refine .mk [] _ (Less_spec (at0 mb (IntKind.i64.wrap ((c : Int) - 1)).toNat) (at0 mb ((q : Int)).toNat)) rfl ?_
              rw [eq1, eq2]
              show ABr (!decide (at0 mb (c - 1) < at0 mb q)) _ _
              refine ⟨fun hz => ?_, fun _ => ?_⟩
              · skip
                show ACall _ _ _ _ _ _
                refine .hand [(16, 16)] (hp16 mb) [.c (.own 16), .int c, .int d, .int (q : Nat)] _ (.cons _ _ _ _ (.c _ _ (.own _ _ rfl)) (.cons _ _ _ _ .same (.cons _ _ _ _ .same (.cons _ _ _ _ .same .nil)))) (.old 16 16 _ _ _ rfl rfl (.data_eq rfl) .nil) rfl (partEq_spec mb c d q (by omega) (by omega) (by omega)) ?_
                rintro H r ⟨mid, m2, rfl, rfl, g⟩ _ _
                refine ⟨rfl, .inr ⟨rfl, rfl⟩, ?_⟩
                show ARound _ _ _ _
                exact ⟨⟨(m2, mid, d, IntKind.i64.wrap (lim - 1), false, y), hPP.eq hbl ((hPP.low hlow hbl).piv hc0 (by simp at hz; omega)) g⟩, by have := g.2.1; show d - mid < d - c; omega, [(16, 16)], .cons _ _ _ (.c _ _ (.own _ _ rfl)) (.cons _ _ _ .same (.cons _ _ _ .same (.cons _ _ _ .same (.cons _ _ _ .same (.cons _ _ _ .same .nil))))), .old 16 16 _ _ _ rfl rfl (.data_eq rfl) .nil, rfl⟩
              · skip
                show ACall _ _ _ _ _ _
                refine .hand [(16, 16)] (hp16 mb) [.c (.own 16), .int c, .int d, .int (q : Nat)] _ (.cons _ _ _ _ (.c _ _ (.own _ _ rfl)) (.cons _ _ _ _ .same (.cons _ _ _ _ .same (.cons _ _ _ _ .same .nil)))) (.old 16 16 _ _ _ rfl rfl (.data_eq rfl) .nil) rfl (part_spec mb c d q (by omega) (by omega) (by omega)) ?_
                rintro H r ⟨mid, z, m2, rfl, rfl, g⟩ _ _
                refine ⟨rfl, .inr ⟨rfl, rfl⟩, ?_⟩
                obtain ⟨p1, p2⟩ : c ≤ mid ∧ mid < d := ⟨g.2.1, g.2.2.1⟩
                have hm2 : m2.length = l.length := g.1.len.trans hPP.srt.len
                have hm1 : IntKind.i64.wrap ((mid : Int) + 1) = ((mid + 1 : Nat) : Int) := wrapN (by omega) (by omega)
                show AOb ((8 : Int) ≠ 0) _
                refine ⟨by decide, ?_⟩
                show ABr _ _ _
                refine ⟨fun _ => ?_, fun _ => ?_⟩
                · skip
                  show ACall _ _ _ _ _ _
                  refine .hand [(16, 16)] (hp16 m2) [.c (.own 16), .int c, .int mid, .int _] _ (.cons _ _ _ _ (.c _ _ (.own _ _ rfl)) (.cons _ _ _ _ .same (.cons _ _ _ _ .same (.cons _ _ _ _ .same .nil)))) (.old 16 16 _ _ _ rfl rfl (.data_eq rfl) .nil) rfl (ih (mid - c) (by omega) m2 c mid _ (Nat.le_refl _) p1 (by omega) (g.low_left (hPP.low hlow hbl) (by omega) hcd)) ?_
                  rintro H r ⟨rfl, m3, rfl, g1, g2⟩ _ _
                  refine ⟨rfl, .inr ⟨rfl, rfl⟩, ?_⟩
                  show ARound _ _ _ _
                  exact ⟨⟨(m3, mid + 1, d, IntKind.i64.wrap (lim - 1), decide (IntKind.i64.wrap ((mid : Int) - (c : Int)) ≥ IntKind.i64.wrap ((IntKind.i64.wrap ((d : Int) - (c : Int))).tdiv 8)), z), hPP.left hbl g g1 g2⟩, by show d - (mid + 1) < d - c; omega, [(16, 16)], .cons _ _ _ (.c _ _ (.own _ _ rfl)) (.cons _ _ _ (.int_eq hm1) (.cons _ _ _ .same (.cons _ _ _ .same (.cons _ _ _ .same (.cons _ _ _ .same .nil))))), .old 16 16 _ _ _ rfl rfl (.data_eq rfl) .nil, rfl⟩
                · skip
                  show ACall _ _ _ _ _ _
                  refine .hand [(16, 16)] (hp16 m2) [.c (.own 16), .int (mid + 1 : Nat), .int d, .int _] _ (.cons _ _ _ _ (.c _ _ (.own _ _ rfl)) (.cons _ _ _ _ (.int_eq hm1) (.cons _ _ _ _ .same (.cons _ _ _ _ .same .nil)))) (.old 16 16 _ _ _ rfl rfl (.data_eq rfl) .nil) rfl (ih (d - (mid + 1)) (by omega) m2 (mid + 1) d _ (Nat.le_refl _) (by omega) (by omega) g.low_right) ?_
                  rintro H r ⟨rfl, m3, rfl, g1, g2⟩ _ _
                  refine ⟨rfl, .inr ⟨rfl, rfl⟩, ?_⟩
                  show ARound _ _ _ _
                  exact ⟨⟨(m3, c, mid, IntKind.i64.wrap (lim - 1), decide (IntKind.i64.wrap ((d : Int) - (mid : Int)) ≥ IntKind.i64.wrap ((IntKind.i64.wrap ((d : Int) - (c : Int))).tdiv 8)), z), hPP.right hbl g g1 g2⟩, by show mid - (c) < d - c; omega, [(16, 16)], .cons _ _ _ (.c _ _ (.own _ _ rfl)) (.cons _ _ _ .same (.cons _ _ _ .same (.cons _ _ _ .same (.cons _ _ _ .same (.cons _ _ _ .same .nil))))), .old 16 16 _ _ _ rfl rfl (.data_eq rfl) .nil, rfl⟩
            · show ABr _ _ _
              refine ⟨fun hx => absurd hx (by decide), fun _ => ?_⟩
              show ACall _ _ _ _ _ _
              refine .hand [(16, 16)] (hp16 mb) [.c (.own 16), .int c, .int d, .int (q : Nat)] _ (.cons _ _ _ _ (.c _ _ (.own _ _ rfl)) (.cons _ _ _ _ .same (.cons _ _ _ _ .same (.cons _ _ _ _ .same .nil)))) (.old 16 16 _ _ _ rfl rfl (.data_eq rfl) .nil) rfl (part_spec mb c d q (by omega) (by omega) (by omega)) ?_
              rintro H r ⟨mid, z, m2, rfl, rfl, g⟩ _ _
              refine ⟨rfl, .inr ⟨rfl, rfl⟩, ?_⟩
              obtain ⟨p1, p2⟩ : c ≤ mid ∧ mid < d := ⟨g.2.1, g.2.2.1⟩
              have hm2 : m2.length = l.length := g.1.len.trans hPP.srt.len
              have hm1 : IntKind.i64.wrap ((mid : Int) + 1) = ((mid + 1 : Nat) : Int) := wrapN (by omega) (by omega)
              show AOb ((8 : Int) ≠ 0) _
              refine ⟨by decide, ?_⟩
              show ABr _ _ _
              refine ⟨fun _ => ?_, fun _ => ?_⟩
              · skip
                show ACall _ _ _ _ _ _
                refine .hand [(16, 16)] (hp16 m2) [.c (.own 16), .int c, .int mid, .int _] _ (.cons _ _ _ _ (.c _ _ (.own _ _ rfl)) (.cons _ _ _ _ .same (.cons _ _ _ _ .same (.cons _ _ _ _ .same .nil)))) (.old 16 16 _ _ _ rfl rfl (.data_eq rfl) .nil) rfl (ih (mid - c) (by omega) m2 c mid _ (Nat.le_refl _) p1 (by omega) (g.low_left (hPP.low hlow hbl) (by omega) hcd)) ?_
                rintro H r ⟨rfl, m3, rfl, g1, g2⟩ _ _
                refine ⟨rfl, .inr ⟨rfl, rfl⟩, ?_⟩
                show ARound _ _ _ _
                exact ⟨⟨(m3, mid + 1, d, IntKind.i64.wrap (lim - 1), decide (IntKind.i64.wrap ((mid : Int) - (c : Int)) ≥ IntKind.i64.wrap ((IntKind.i64.wrap ((d : Int) - (c : Int))).tdiv 8)), z), hPP.left hbl g g1 g2⟩, by show d - (mid + 1) < d - c; omega, [(16, 16)], .cons _ _ _ (.c _ _ (.own _ _ rfl)) (.cons _ _ _ (.int_eq hm1) (.cons _ _ _ .same (.cons _ _ _ .same (.cons _ _ _ .same (.cons _ _ _ .same .nil))))), .old 16 16 _ _ _ rfl rfl (.data_eq rfl) .nil, rfl⟩
              · skip
                show ACall _ _ _ _ _ _
                refine .hand [(16, 16)] (hp16 m2) [.c (.own 16), .int (mid + 1 : Nat), .int d, .int _] _ (.cons _ _ _ _ (.c _ _ (.own _ _ rfl)) (.cons _ _ _ _ (.int_eq hm1) (.cons _ _ _ _ .same (.cons _ _ _ _ .same .nil)))) (.old 16 16 _ _ _ rfl rfl (.data_eq rfl) .nil) rfl (ih (d - (mid + 1)) (by omega) m2 (mid + 1) d _ (Nat.le_refl _) (by omega) (by omega) g.low_right) ?_
                rintro H r ⟨rfl, m3, rfl, g1, g2⟩ _ _
                refine ⟨rfl, .inr ⟨rfl, rfl⟩, ?_⟩
                show ARound _ _ _ _
                exact ⟨⟨(m3, c, mid, IntKind.i64.wrap (lim - 1), decide (IntKind.i64.wrap ((d : Int) - (mid : Int)) ≥ IntKind.i64.wrap ((IntKind.i64.wrap ((d : Int) - (c : Int))).tdiv 8)), z), hPP.right hbl g g1 g2⟩, by show mid - (c) < d - c; omega, [(16, 16)], .cons _ _ _ (.c _ _ (.own _ _ rfl)) (.cons _ _ _ .same (.cons _ _ _ .same (.cons _ _ _ .same (.cons _ _ _ .same (.cons _ _ _ .same .nil))))), .old 16 16 _ _ _ rfl rfl (.data_eq rfl) .nil, rfl⟩
        · show ABr (!true) _ _
          refine ⟨fun hx => absurd hx (by decide), fun _ => ?_⟩
          have hPP : PQ l m a b c d := hP
          have hmm : m.length = l.length := hPP.srt.len
          show ACall _ _ _ _ _ _
          refine .hand [(16, 16)] (hp16 m) [.c (.own 16), .int c, .int d] _ (.cons _ _ _ _ (.c _ _ (.own _ _ rfl)) (.cons _ _ _ _ .same (.cons _ _ _ _ .same .nil))) (.old 16 16 _ _ _ rfl rfl (.data_eq rfl) .nil) rfl (choosePivot_spec m c d h12 (by omega)) ?_
          rintro H r ⟨q, hint, rfl, rfl, q1, q2⟩ _ _
          refine ⟨rfl, .inr ⟨rfl, rfl⟩, ?_⟩
          show ABr (decide (hint = 2)) _ _
          refine ⟨fun _ => ?_, fun _ => ?_⟩
          · skip
            show ACall _ _ _ _ _ _
            refine .hand [(16, 16)] (hp16 m) [.c (.own 16), .int c, .int d] (SrtQ m c d) (.cons _ _ _ _ (.c _ _ (.own _ _ rfl)) (.cons _ _ _ _ .same (.cons _ _ _ _ .same .nil))) (.old 16 16 _ _ _ rfl rfl (.data_eq rfl) .nil) rfl (rev_spec m c d (by omega) (by omega)) ?_
            rintro H r ⟨rfl, mr, rfl, gr⟩ _ _
            refine ⟨rfl, .inr ⟨rfl, rfl⟩, ?_⟩
            have hPP : PQ l mr a b c d := hPP.mix hbl gr
            have hmm : mr.length = l.length := hPP.srt.len
            have hd1 : IntKind.i64.wrap ((d : Int) - 1) = ((d - 1 : Nat) : Int) := wrapN (by omega) (by omega)
            have hqc : IntKind.i64.wrap ((q : Int) - (c : Int)) = ((q - c : Nat) : Int) := wrapN (by omega) (by omega)
            have hq2 : IntKind.i64.wrap (IntKind.i64.wrap ((d : Int) - 1) - IntKind.i64.wrap ((q : Int) - (c : Int))) = ((d - 1 - (q - c) : Nat) : Int) := wrapN (by rw [hd1, hqc]; omega) (by omega)
            show ABr _ _ _
            refine ⟨fun _ => ?_, fun _ => ?_⟩
            · skip
              show ACall _ _ _ _ _ _
              refine .hand [(16, 16)] (hp16 mr) [.c (.own 16), .int c, .int d] _ (.cons _ _ _ _ (.c _ _ (.own _ _ rfl)) (.cons _ _ _ _ .same (.cons _ _ _ _ .same .nil))) (.old 16 16 _ _ _ rfl rfl (.data_eq rfl) .nil) rfl (pins_spec mr c d (by omega) (by omega) (hPP.low hlow hbl)) ?_
              rintro H r ⟨v, mp, rfl, rfl, gp, gs⟩ _ _
              refine ⟨rfl, .inr ⟨rfl, rfl⟩, ?_⟩
              have hPP : PQ l mp a b c d := hPP.mix hbl gp
              have hmm : mp.length = l.length := hPP.srt.len
              show ABr v _ _
              refine ⟨fun hv => ?_, fun _ => ?_⟩
              · skip
                show ARet _ _ _
                exact ⟨[(16, 16)], hp16 mp, [], .nil, .old 16 16 _ _ _ rfl rfl (.data_eq rfl) .nil, rfl, rfl, mp, rfl, (hPP).srt, (hPP).done (gs hv)⟩
              · skip
                show ABr (decide ((c : Int) > 0)) _ _
                refine ⟨fun hx => ?_, fun hx => ?_⟩
                · have hc0 : 0 < c := by simp at hx; omega
                  have hwc : IntKind.i64.wrap ((c : Int) - 1) = ((c - 1 : Nat) : Int) := wrapN (by omega) (by omega)
                  show AOb ((0 : Int) ≤ IntKind.i64.wrap ((c : Int) - 1) ∧ IntKind.i64.wrap ((c : Int) - 1) < (mp.length : Int)) _
                  refine ⟨by rw [hwc]; omega, ?_⟩
                  show AOb ((IntKind.i64.wrap ((c : Int) - 1)).toNat < mp.length) _
                  refine ⟨by rw [hwc]; omega, ?_⟩
                  show AOb ((0 : Int) ≤ IntKind.i64.wrap (IntKind.i64.wrap ((d : Int) - 1) - IntKind.i64.wrap ((q : Int) - (c : Int))) ∧ IntKind.i64.wrap (IntKind.i64.wrap ((d : Int) - 1) - IntKind.i64.wrap ((q : Int) - (c : Int))) < (mp.length : Int)) _
                  refine ⟨by rw [hq2]; omega, ?_⟩
                  show AOb ((IntKind.i64.wrap (IntKind.i64.wrap ((d : Int) - 1) - IntKind.i64.wrap ((q : Int) - (c : Int)))).toNat < mp.length) _
                  refine ⟨by rw [hq2]; omega, ?_⟩
                  have eq1 : (IntKind.i64.wrap ((c : Int) - 1)).toNat = c - 1 := by rw [hwc]; omega
                  have eq2 : (IntKind.i64.wrap (IntKind.i64.wrap ((d : Int) - 1) - IntKind.i64.wrap ((q : Int) - (c : Int)))).toNat = (d - 1 - (q - c)) := by rw [hq2]; omega
                  show ADCall _ _ _ _ _ _
                  refine .mk [] _ (Less_spec (at0 mp (IntKind.i64.wrap ((c : Int) - 1)).toNat) (at0 mp (IntKind.i64.wrap (IntKind.i64.wrap ((d : Int) - 1) - IntKind.i64.wrap ((q : Int) - (c : Int)))).toNat)) rfl ?_
                  rw [eq1, eq2]
                  show ABr (!decide (at0 mp (c - 1) < at0 mp (d - 1 - (q - c)))) _ _
                  refine ⟨fun hz => ?_, fun _ => ?_⟩
                  · skip
                    show ACall _ _ _ _ _ _
                    refine .hand [(16, 16)] (hp16 mp) [.c (.own 16), .int c, .int d, .int ((d - 1 - (q - c)) : Nat)] _ (.cons _ _ _ _ (.c _ _ (.own _ _ rfl)) (.cons _ _ _ _ .same (.cons _ _ _ _ .same (.cons _ _ _ _ (.int_eq hq2) .nil)))) (.old 16 16 _ _ _ rfl rfl (.data_eq rfl) .nil) rfl (partEq_spec mp c d (d - 1 - (q - c)) (by omega) (by omega) (by omega)) ?_
                    rintro H r ⟨mid, m2, rfl, rfl, g⟩ _ _
                    refine ⟨rfl, .inr ⟨rfl, rfl⟩, ?_⟩
                    show ARound _ _ _ _
                    exact ⟨⟨(m2, mid, d, lim, true, y), hPP.eq hbl ((hPP.low hlow hbl).piv hc0 (by simp at hz; omega)) g⟩, by have := g.2.1; show d - mid < d - c; omega, [(16, 16)], .cons _ _ _ (.c _ _ (.own _ _ rfl)) (.cons _ _ _ .same (.cons _ _ _ .same (.cons _ _ _ .same (.cons _ _ _ .same (.cons _ _ _ .same .nil))))), .old 16 16 _ _ _ rfl rfl (.data_eq rfl) .nil, rfl⟩
                  · skip
                    show ACall _ _ _ _ _ _
                    refine .hand [(16, 16)] (hp16 mp) [.c (.own 16), .int c, .int d, .int ((d - 1 - (q - c)) : Nat)] _ (.cons _ _ _ _ (.c _ _ (.own _ _ rfl)) (.cons _ _ _ _ .same (.cons _ _ _ _ .same (.cons _ _ _ _ (.int_eq hq2) .nil)))) (.old 16 16 _ _ _ rfl rfl (.data_eq rfl) .nil) rfl (part_spec mp c d (d - 1 - (q - c)) (by omega) (by omega) (by omega)) ?_
                    rintro H r ⟨mid, z, m2, rfl, rfl, g⟩ _ _
                    refine ⟨rfl, .inr ⟨rfl, rfl⟩, ?_⟩
                    obtain ⟨p1, p2⟩ : c ≤ mid ∧ mid < d := ⟨g.2.1, g.2.2.1⟩
                    have hm2 : m2.length = l.length := g.1.len.trans hPP.srt.len
                    have hm1 : IntKind.i64.wrap ((mid : Int) + 1) = ((mid + 1 : Nat) : Int) := wrapN (by omega) (by omega)
                    show AOb ((8 : Int) ≠ 0) _
                    refine ⟨by decide, ?_⟩
                    show ABr _ _ _
                    refine ⟨fun _ => ?_, fun _ => ?_⟩
                    · skip
                      show ACall _ _ _ _ _ _
                      refine .hand [(16, 16)] (hp16 m2) [.c (.own 16), .int c, .int mid, .int _] _ (.cons _ _ _ _ (.c _ _ (.own _ _ rfl)) (.cons _ _ _ _ .same (.cons _ _ _ _ .same (.cons _ _ _ _ .same .nil)))) (.old 16 16 _ _ _ rfl rfl (.data_eq rfl) .nil) rfl (ih (mid - c) (by omega) m2 c mid _ (Nat.le_refl _) p1 (by omega) (g.low_left (hPP.low hlow hbl) (by omega) hcd)) ?_
                      rintro H r ⟨rfl, m3, rfl, g1, g2⟩ _ _
                      refine ⟨rfl, .inr ⟨rfl, rfl⟩, ?_⟩
                      show ARound _ _ _ _
                      exact ⟨⟨(m3, mid + 1, d, lim, decide (IntKind.i64.wrap ((mid : Int) - (c : Int)) ≥ IntKind.i64.wrap ((IntKind.i64.wrap ((d : Int) - (c : Int))).tdiv 8)), z), hPP.left hbl g g1 g2⟩, by show d - (mid + 1) < d - c; omega, [(16, 16)], .cons _ _ _ (.c _ _ (.own _ _ rfl)) (.cons _ _ _ (.int_eq hm1) (.cons _ _ _ .same (.cons _ _ _ .same (.cons _ _ _ .same (.cons _ _ _ .same .nil))))), .old 16 16 _ _ _ rfl rfl (.data_eq rfl) .nil, rfl⟩
                    · skip
                      show ACall _ _ _ _ _ _
                      refine .hand [(16, 16)] (hp16 m2) [.c (.own 16), .int (mid + 1 : Nat), .int d, .int _] _ (.cons _ _ _ _ (.c _ _ (.own _ _ rfl)) (.cons _ _ _ _ (.int_eq hm1) (.cons _ _ _ _ .same (.cons _ _ _ _ .same .nil)))) (.old 16 16 _ _ _ rfl rfl (.data_eq rfl) .nil) rfl (ih (d - (mid + 1)) (by omega) m2 (mid + 1) d _ (Nat.le_refl _) (by omega) (by omega) g.low_right) ?_
                      rintro H r ⟨rfl, m3, rfl, g1, g2⟩ _ _
                      refine ⟨rfl, .inr ⟨rfl, rfl⟩, ?_⟩
                      show ARound _ _ _ _
                      exact ⟨⟨(m3, c, mid, lim, decide (IntKind.i64.wrap ((d : Int) - (mid : Int)) ≥ IntKind.i64.wrap ((IntKind.i64.wrap ((d : Int) - (c : Int))).tdiv 8)), z), hPP.right hbl g g1 g2⟩, by show mid - (c) < d - c; omega, [(16, 16)], .cons _ _ _ (.c _ _ (.own _ _ rfl)) (.cons _ _ _ .same (.cons _ _ _ .same (.cons _ _ _ .same (.cons _ _ _ .same (.cons _ _ _ .same .nil))))), .old 16 16 _ _ _ rfl rfl (.data_eq rfl) .nil, rfl⟩
                · show ABr _ _ _
                  refine ⟨fun hx => absurd hx (by decide), fun _ => ?_⟩
                  show ACall _ _ _ _ _ _
                  refine .hand [(16, 16)] (hp16 mp) [.c (.own 16), .int c, .int d, .int ((d - 1 - (q - c)) : Nat)] _ (.cons _ _ _ _ (.c _ _ (.own _ _ rfl)) (.cons _ _ _ _ .same (.cons _ _ _ _ .same (.cons _ _ _ _ (.int_eq hq2) .nil)))) (.old 16 16 _ _ _ rfl rfl (.data_eq rfl) .nil) rfl (part_spec mp c d (d - 1 - (q - c)) (by omega) (by omega) (by omega)) ?_
                  rintro H r ⟨mid, z, m2, rfl, rfl, g⟩ _ _
                  refine ⟨rfl, .inr ⟨rfl, rfl⟩, ?_⟩
                  obtain ⟨p1, p2⟩ : c ≤ mid ∧ mid < d := ⟨g.2.1, g.2.2.1⟩
                  have hm2 : m2.length = l.length := g.1.len.trans hPP.srt.len
                  have hm1 : IntKind.i64.wrap ((mid : Int) + 1) = ((mid + 1 : Nat) : Int) := wrapN (by omega) (by omega)
                  show AOb ((8 : Int) ≠ 0) _
                  refine ⟨by decide, ?_⟩
                  show ABr _ _ _
                  refine ⟨fun _ => ?_, fun _ => ?_⟩
                  · skip
                    show ACall _ _ _ _ _ _
                    refine .hand [(16, 16)] (hp16 m2) [.c (.own 16), .int c, .int mid, .int _] _ (.cons _ _ _ _ (.c _ _ (.own _ _ rfl)) (.cons _ _ _ _ .same (.cons _ _ _ _ .same (.cons _ _ _ _ .same .nil)))) (.old 16 16 _ _ _ rfl rfl (.data_eq rfl) .nil) rfl (ih (mid - c) (by omega) m2 c mid _ (Nat.le_refl _) p1 (by omega) (g.low_left (hPP.low hlow hbl) (by omega) hcd)) ?_
                    rintro H r ⟨rfl, m3, rfl, g1, g2⟩ _ _
                    refine ⟨rfl, .inr ⟨rfl, rfl⟩, ?_⟩
                    show ARound _ _ _ _
                    exact ⟨⟨(m3, mid + 1, d, lim, decide (IntKind.i64.wrap ((mid : Int) - (c : Int)) ≥ IntKind.i64.wrap ((IntKind.i64.wrap ((d : Int) - (c : Int))).tdiv 8)), z), hPP.left hbl g g1 g2⟩, by show d - (mid + 1) < d - c; omega, [(16, 16)], .cons _ _ _ (.c _ _ (.own _ _ rfl)) (.cons _ _ _ (.int_eq hm1) (.cons _ _ _ .same (.cons _ _ _ .same (.cons _ _ _ .same (.cons _ _ _ .same .nil))))), .old 16 16 _ _ _ rfl rfl (.data_eq rfl) .nil, rfl⟩
                  · skip
                    show ACall _ _ _ _ _ _
                    refine .hand [(16, 16)] (hp16 m2) [.c (.own 16), .int (mid + 1 : Nat), .int d, .int _] _ (.cons _ _ _ _ (.c _ _ (.own _ _ rfl)) (.cons _ _ _ _ (.int_eq hm1) (.cons _ _ _ _ .same (.cons _ _ _ _ .same .nil)))) (.old 16 16 _ _ _ rfl rfl (.data_eq rfl) .nil) rfl (ih (d - (mid + 1)) (by omega) m2 (mid + 1) d _ (Nat.le_refl _) (by omega) (by omega) g.low_right) ?_
                    rintro H r ⟨rfl, m3, rfl, g1, g2⟩ _ _
                    refine ⟨rfl, .inr ⟨rfl, rfl⟩, ?_⟩
                    show ARound _ _ _ _
                    exact ⟨⟨(m3, c, mid, lim, decide (IntKind.i64.wrap ((d : Int) - (mid : Int)) ≥ IntKind.i64.wrap ((IntKind.i64.wrap ((d : Int) - (c : Int))).tdiv 8)), z), hPP.right hbl g g1 g2⟩, by show mid - (c) < d - c; omega, [(16, 16)], .cons _ _ _ (.c _ _ (.own _ _ rfl)) (.cons _ _ _ .same (.cons _ _ _ .same (.cons _ _ _ .same (.cons _ _ _ .same (.cons _ _ _ .same .nil))))), .old 16 16 _ _ _ rfl rfl (.data_eq rfl) .nil, rfl⟩
            · skip
              show ABr (decide ((c : Int) > 0)) _ _
              refine ⟨fun hx => ?_, fun hx => ?_⟩
              · have hc0 : 0 < c := by simp at hx; omega
                have hwc : IntKind.i64.wrap ((c : Int) - 1) = ((c - 1 : Nat) : Int) := wrapN (by omega) (by omega)
                show AOb ((0 : Int) ≤ IntKind.i64.wrap ((c : Int) - 1) ∧ IntKind.i64.wrap ((c : Int) - 1) < (mr.length : Int)) _
                refine ⟨by rw [hwc]; omega, ?_⟩
                show AOb ((IntKind.i64.wrap ((c : Int) - 1)).toNat < mr.length) _
                refine ⟨by rw [hwc]; omega, ?_⟩
                show AOb ((0 : Int) ≤ IntKind.i64.wrap (IntKind.i64.wrap ((d : Int) - 1) - IntKind.i64.wrap ((q : Int) - (c : Int))) ∧ IntKind.i64.wrap (IntKind.i64.wrap ((d : Int) - 1) - IntKind.i64.wrap ((q : Int) - (c : Int))) < (mr.length : Int)) _
                refine ⟨by rw [hq2]; omega, ?_⟩
                show AOb ((IntKind.i64.wrap (IntKind.i64.wrap ((d : Int) - 1) - IntKind.i64.wrap ((q : Int) - (c : Int)))).toNat < mr.length) _
                refine ⟨by rw [hq2]; omega, ?_⟩
                have eq1 : (IntKind.i64.wrap ((c : Int) - 1)).toNat = c - 1 := by rw [hwc]; omega
                have eq2 : (IntKind.i64.wrap (IntKind.i64.wrap ((d : Int) - 1) - IntKind.i64.wrap ((q : Int) - (c : Int)))).toNat = (d - 1 - (q - c)) := by rw [hq2]; omega
                show ADCall _ _ _ _ _ _
                refine .mk [] _ (Less_spec (at0 mr (IntKind.i64.wrap ((c : Int) - 1)).toNat) (at0 mr (IntKind.i64.wrap (IntKind.i64.wrap ((d : Int) - 1) - IntKind.i64.wrap ((q : Int) - (c : Int)))).toNat)) rfl ?_
                rw [eq1, eq2]
                show ABr (!decide (at0 mr (c - 1) < at0 mr (d - 1 - (q - c)))) _ _
                refine ⟨fun hz => ?_, fun _ => ?_⟩
                · skip
                  show ACall _ _ _ _ _ _
                  refine .hand [(16, 16)] (hp16 mr) [.c (.own 16), .int c, .int d, .int ((d - 1 - (q - c)) : Nat)] _ (.cons _ _ _ _ (.c _ _ (.own _ _ rfl)) (.cons _ _ _ _ .same (.cons _ _ _ _ .same (.cons _ _ _ _ (.int_eq hq2) .nil)))) (.old 16 16 _ _ _ rfl rfl (.data_eq rfl) .nil) rfl (partEq_spec mr c d (d - 1 - (q - c)) (by omega) (by omega) (by omega)) ?_
                  rintro H r ⟨mid, m2, rfl, rfl, g⟩ _ _
                  refine ⟨rfl, .inr ⟨rfl, rfl⟩, ?_⟩
                  show ARound _ _ _ _
                  exact ⟨⟨(m2, mid, d, lim, true, y), hPP.eq hbl ((hPP.low hlow hbl).piv hc0 (by simp at hz; omega)) g⟩, by have := g.2.1; show d - mid < d - c; omega, [(16, 16)], .cons _ _ _ (.c _ _ (.own _ _ rfl)) (.cons _ _ _ .same (.cons _ _ _ .same (.cons _ _ _ .same (.cons _ _ _ .same (.cons _ _ _ .same .nil))))), .old 16 16 _ _ _ rfl rfl (.data_eq rfl) .nil, rfl⟩
                · skip
                  show ACall _ _ _ _ _ _
                  refine .hand [(16, 16)] (hp16 mr) [.c (.own 16), .int c, .int d, .int ((d - 1 - (q - c)) : Nat)] _ (.cons _ _ _ _ (.c _ _ (.own _ _ rfl)) (.cons _ _ _ _ .same (.cons _ _ _ _ .same (.cons _ _ _ _ (.int_eq hq2) .nil)))) (.old 16 16 _ _ _ rfl rfl (.data_eq rfl) .nil) rfl (part_spec mr c d (d - 1 - (q - c)) (by omega) (by omega) (by omega)) ?_
                  rintro H r ⟨mid, z, m2, rfl, rfl, g⟩ _ _
                  refine ⟨rfl, .inr ⟨rfl, rfl⟩, ?_⟩
                  obtain ⟨p1, p2⟩ : c ≤ mid ∧ mid < d := ⟨g.2.1, g.2.2.1⟩
                  have hm2 : m2.length = l.length := g.1.len.trans hPP.srt.len
                  have hm1 : IntKind.i64.wrap ((mid : Int) + 1) = ((mid + 1 : Nat) : Int) := wrapN (by omega) (by omega)
                  show AOb ((8 : Int) ≠ 0) _
                  refine ⟨by decide, ?_⟩
                  show ABr _ _ _
                  refine ⟨fun _ => ?_, fun _ => ?_⟩
                  · skip
                    show ACall _ _ _ _ _ _
                    refine .hand [(16, 16)] (hp16 m2) [.c (.own 16), .int c, .int mid, .int _] _ (.cons _ _ _ _ (.c _ _ (.own _ _ rfl)) (.cons _ _ _ _ .same (.cons _ _ _ _ .same (.cons _ _ _ _ .same .nil)))) (.old 16 16 _ _ _ rfl rfl (.data_eq rfl) .nil) rfl (ih (mid - c) (by omega) m2 c mid _ (Nat.le_refl _) p1 (by omega) (g.low_left (hPP.low hlow hbl) (by omega) hcd)) ?_
                    rintro H r ⟨rfl, m3, rfl, g1, g2⟩ _ _
                    refine ⟨rfl, .inr ⟨rfl, rfl⟩, ?_⟩
                    show ARound _ _ _ _
                    exact ⟨⟨(m3, mid + 1, d, lim, decide (IntKind.i64.wrap ((mid : Int) - (c : Int)) ≥ IntKind.i64.wrap ((IntKind.i64.wrap ((d : Int) - (c : Int))).tdiv 8)), z), hPP.left hbl g g1 g2⟩, by show d - (mid + 1) < d - c; omega, [(16, 16)], .cons _ _ _ (.c _ _ (.own _ _ rfl)) (.cons _ _ _ (.int_eq hm1) (.cons _ _ _ .same (.cons _ _ _ .same (.cons _ _ _ .same (.cons _ _ _ .same .nil))))), .old 16 16 _ _ _ rfl rfl (.data_eq rfl) .nil, rfl⟩
                  · skip
                    show ACall _ _ _ _ _ _
                    refine .hand [(16, 16)] (hp16 m2) [.c (.own 16), .int (mid + 1 : Nat), .int d, .int _] _ (.cons _ _ _ _ (.c _ _ (.own _ _ rfl)) (.cons _ _ _ _ (.int_eq hm1) (.cons _ _ _ _ .same (.cons _ _ _ _ .same .nil)))) (.old 16 16 _ _ _ rfl rfl (.data_eq rfl) .nil) rfl (ih (d - (mid + 1)) (by omega) m2 (mid + 1) d _ (Nat.le_refl _) (by omega) (by omega) g.low_right) ?_
                    rintro H r ⟨rfl, m3, rfl, g1, g2⟩ _ _
                    refine ⟨rfl, .inr ⟨rfl, rfl⟩, ?_⟩
                    show ARound _ _ _ _
                    exact ⟨⟨(m3, c, mid, lim, decide (IntKind.i64.wrap ((d : Int) - (mid : Int)) ≥ IntKind.i64.wrap ((IntKind.i64.wrap ((d : Int) - (c : Int))).tdiv 8)), z), hPP.right hbl g g1 g2⟩, by show mid - (c) < d - c; omega, [(16, 16)], .cons _ _ _ (.c _ _ (.own _ _ rfl)) (.cons _ _ _ .same (.cons _ _ _ .same (.cons _ _ _ .same (.cons _ _ _ .same (.cons _ _ _ .same .nil))))), .old 16 16 _ _ _ rfl rfl (.data_eq rfl) .nil, rfl⟩
              · show ABr _ _ _
                refine ⟨fun hx => absurd hx (by decide), fun _ => ?_⟩
                show ACall _ _ _ _ _ _
                refine .hand [(16, 16)] (hp16 mr) [.c (.own 16), .int c, .int d, .int ((d - 1 - (q - c)) : Nat)] _ (.cons _ _ _ _ (.c _ _ (.own _ _ rfl)) (.cons _ _ _ _ .same (.cons _ _ _ _ .same (.cons _ _ _ _ (.int_eq hq2) .nil)))) (.old 16 16 _ _ _ rfl rfl (.data_eq rfl) .nil) rfl (part_spec mr c d (d - 1 - (q - c)) (by omega) (by omega) (by omega)) ?_
                rintro H r ⟨mid, z, m2, rfl, rfl, g⟩ _ _
                refine ⟨rfl, .inr ⟨rfl, rfl⟩, ?_⟩
                obtain ⟨p1, p2⟩ : c ≤ mid ∧ mid < d := ⟨g.2.1, g.2.2.1⟩
                have hm2 : m2.length = l.length := g.1.len.trans hPP.srt.len
                have hm1 : IntKind.i64.wrap ((mid : Int) + 1) = ((mid + 1 : Nat) : Int) := wrapN (by omega) (by omega)
                show AOb ((8 : Int) ≠ 0) _
                refine ⟨by decide, ?_⟩
                show ABr _ _ _
                refine ⟨fun _ => ?_, fun _ => ?_⟩
                · skip
                  show ACall _ _ _ _ _ _
                  refine .hand [(16, 16)] (hp16 m2) [.c (.own 16), .int c, .int mid, .int _] _ (.cons _ _ _ _ (.c _ _ (.own _ _ rfl)) (.cons _ _ _ _ .same (.cons _ _ _ _ .same (.cons _ _ _ _ .same .nil)))) (.old 16 16 _ _ _ rfl rfl (.data_eq rfl) .nil) rfl (ih (mid - c) (by omega) m2 c mid _ (Nat.le_refl _) p1 (by omega) (g.low_left (hPP.low hlow hbl) (by omega) hcd)) ?_
                  rintro H r ⟨rfl, m3, rfl, g1, g2⟩ _ _
                  refine ⟨rfl, .inr ⟨rfl, rfl⟩, ?_⟩
                  show ARound _ _ _ _
                  exact ⟨⟨(m3, mid + 1, d, lim, decide (IntKind.i64.wrap ((mid : Int) - (c : Int)) ≥ IntKind.i64.wrap ((IntKind.i64.wrap ((d : Int) - (c : Int))).tdiv 8)), z), hPP.left hbl g g1 g2⟩, by show d - (mid + 1) < d - c; omega, [(16, 16)], .cons _ _ _ (.c _ _ (.own _ _ rfl)) (.cons _ _ _ (.int_eq hm1) (.cons _ _ _ .same (.cons _ _ _ .same (.cons _ _ _ .same (.cons _ _ _ .same .nil))))), .old 16 16 _ _ _ rfl rfl (.data_eq rfl) .nil, rfl⟩
                · skip
                  show ACall _ _ _ _ _ _
                  refine .hand [(16, 16)] (hp16 m2) [.c (.own 16), .int (mid + 1 : Nat), .int d, .int _] _ (.cons _ _ _ _ (.c _ _ (.own _ _ rfl)) (.cons _ _ _ _ (.int_eq hm1) (.cons _ _ _ _ .same (.cons _ _ _ _ .same .nil)))) (.old 16 16 _ _ _ rfl rfl (.data_eq rfl) .nil) rfl (ih (d - (mid + 1)) (by omega) m2 (mid + 1) d _ (Nat.le_refl _) (by omega) (by omega) g.low_right) ?_
                  rintro H r ⟨rfl, m3, rfl, g1, g2⟩ _ _
                  refine ⟨rfl, .inr ⟨rfl, rfl⟩, ?_⟩
                  show ARound _ _ _ _
                  exact ⟨⟨(m3, c, mid, lim, decide (IntKind.i64.wrap ((d : Int) - (mid : Int)) ≥ IntKind.i64.wrap ((IntKind.i64.wrap ((d : Int) - (c : Int))).tdiv 8)), z), hPP.right hbl g g1 g2⟩, by show mid - (c) < d - c; omega, [(16, 16)], .cons _ _ _ (.c _ _ (.own _ _ rfl)) (.cons _ _ _ .same (.cons _ _ _ .same (.cons _ _ _ .same (.cons _ _ _ .same (.cons _ _ _ .same .nil))))), .old 16 16 _ _ _ rfl rfl (.data_eq rfl) .nil, rfl⟩
          · skip
            show ABr _ _ _
            refine ⟨fun _ => ?_, fun _ => ?_⟩
            · skip
              show ACall _ _ _ _ _ _
              refine .hand [(16, 16)] (hp16 m) [.c (.own 16), .int c, .int d] _ (.cons _ _ _ _ (.c _ _ (.own _ _ rfl)) (.cons _ _ _ _ .same (.cons _ _ _ _ .same .nil))) (.old 16 16 _ _ _ rfl rfl (.data_eq rfl) .nil) rfl (pins_spec m c d (by omega) (by omega) (hPP.low hlow hbl)) ?_
              rintro H r ⟨v, mp, rfl, rfl, gp, gs⟩ _ _
              refine ⟨rfl, .inr ⟨rfl, rfl⟩, ?_⟩
              have hPP : PQ l mp a b c d := hPP.mix hbl gp
              have hmm : mp.length = l.length := hPP.srt.len
              show ABr v _ _
              refine ⟨fun hv => ?_, fun _ => ?_⟩
              · skip
                show ARet _ _ _
                exact ⟨[(16, 16)], hp16 mp, [], .nil, .old 16 16 _ _ _ rfl rfl (.data_eq rfl) .nil, rfl, rfl, mp, rfl, (hPP).srt, (hPP).done (gs hv)⟩
              · skip
                show ABr (decide ((c : Int) > 0)) _ _
                refine ⟨fun hx => ?_, fun hx => ?_⟩
                · have hc0 : 0 < c := by simp at hx; omega
                  have hwc : IntKind.i64.wrap ((c : Int) - 1) = ((c - 1 : Nat) : Int) := wrapN (by omega) (by omega)
                  show AOb ((0 : Int) ≤ IntKind.i64.wrap ((c : Int) - 1) ∧ IntKind.i64.wrap ((c : Int) - 1) < (mp.length : Int)) _
                  refine ⟨by rw [hwc]; omega, ?_⟩
                  show AOb ((IntKind.i64.wrap ((c : Int) - 1)).toNat < mp.length) _
                  refine ⟨by rw [hwc]; omega, ?_⟩
                  show AOb ((0 : Int) ≤ (q : Int) ∧ (q : Int) < (mp.length : Int)) _
                  refine ⟨by omega, ?_⟩
                  show AOb (((q : Int)).toNat < mp.length) _
                  refine ⟨by omega, ?_⟩
                  have eq1 : (IntKind.i64.wrap ((c : Int) - 1)).toNat = c - 1 := by rw [hwc]; omega
                  have eq2 : ((q : Int)).toNat = q := by omega
                  show ADCall _ _ _ _ _ _
                  refine .mk [] _ (Less_spec (at0 mp (IntKind.i64.wrap ((c : Int) - 1)).toNat) (at0 mp ((q : Int)).toNat)) rfl ?_
                  rw [eq1, eq2]
                  show ABr (!decide (at0 mp (c - 1) < at0 mp q)) _ _
                  refine ⟨fun hz => ?_, fun _ => ?_⟩
                  · skip
                    show ACall _ _ _ _ _ _
                    refine .hand [(16, 16)] (hp16 mp) [.c (.own 16), .int c, .int d, .int (q : Nat)] _ (.cons _ _ _ _ (.c _ _ (.own _ _ rfl)) (.cons _ _ _ _ .same (.cons _ _ _ _ .same (.cons _ _ _ _ .same .nil)))) (.old 16 16 _ _ _ rfl rfl (.data_eq rfl) .nil) rfl (partEq_spec mp c d q (by omega) (by omega) (by omega)) ?_
                    rintro H r ⟨mid, m2, rfl, rfl, g⟩ _ _
                    refine ⟨rfl, .inr ⟨rfl, rfl⟩, ?_⟩
                    show ARound _ _ _ _
                    exact ⟨⟨(m2, mid, d, lim, true, y), hPP.eq hbl ((hPP.low hlow hbl).piv hc0 (by simp at hz; omega)) g⟩, by have := g.2.1; show d - mid < d - c; omega, [(16, 16)], .cons _ _ _ (.c _ _ (.own _ _ rfl)) (.cons _ _ _ .same (.cons _ _ _ .same (.cons _ _ _ .same (.cons _ _ _ .same (.cons _ _ _ .same .nil))))), .old 16 16 _ _ _ rfl rfl (.data_eq rfl) .nil, rfl⟩
                  · skip
                    show ACall _ _ _ _ _ _
                    refine .hand [(16, 16)] (hp16 mp) [.c (.own 16), .int c, .int d, .int (q : Nat)] _ (.cons _ _ _ _ (.c _ _ (.own _ _ rfl)) (.cons _ _ _ _ .same (.cons _ _ _ _ .same (.cons _ _ _ _ .same .nil)))) (.old 16 16 _ _ _ rfl rfl (.data_eq rfl) .nil) rfl (part_spec mp c d q (by omega) (by omega) (by omega)) ?_
                    rintro H r ⟨mid, z, m2, rfl, rfl, g⟩ _ _
                    refine ⟨rfl, .inr ⟨rfl, rfl⟩, ?_⟩
                    obtain ⟨p1, p2⟩ : c ≤ mid ∧ mid < d := ⟨g.2.1, g.2.2.1⟩
                    have hm2 : m2.length = l.length := g.1.len.trans hPP.srt.len
                    have hm1 : IntKind.i64.wrap ((mid : Int) + 1) = ((mid + 1 : Nat) : Int) := wrapN (by omega) (by omega)
                    show AOb ((8 : Int) ≠ 0) _
                    refine ⟨by decide, ?_⟩
                    show ABr _ _ _
                    refine ⟨fun _ => ?_, fun _ => ?_⟩
                    · skip
                      show ACall _ _ _ _ _ _
                      refine .hand [(16, 16)] (hp16 m2) [.c (.own 16), .int c, .int mid, .int _] _ (.cons _ _ _ _ (.c _ _ (.own _ _ rfl)) (.cons _ _ _ _ .same (.cons _ _ _ _ .same (.cons _ _ _ _ .same .nil)))) (.old 16 16 _ _ _ rfl rfl (.data_eq rfl) .nil) rfl (ih (mid - c) (by omega) m2 c mid _ (Nat.le_refl _) p1 (by omega) (g.low_left (hPP.low hlow hbl) (by omega) hcd)) ?_
                      rintro H r ⟨rfl, m3, rfl, g1, g2⟩ _ _
                      refine ⟨rfl, .inr ⟨rfl, rfl⟩, ?_⟩
                      show ARound _ _ _ _
                      exact ⟨⟨(m3, mid + 1, d, lim, decide (IntKind.i64.wrap ((mid : Int) - (c : Int)) ≥ IntKind.i64.wrap ((IntKind.i64.wrap ((d : Int) - (c : Int))).tdiv 8)), z), hPP.left hbl g g1 g2⟩, by show d - (mid + 1) < d - c; omega, [(16, 16)], .cons _ _ _ (.c _ _ (.own _ _ rfl)) (.cons _ _ _ (.int_eq hm1) (.cons _ _ _ .same (.cons _ _ _ .same (.cons _ _ _ .same (.cons _ _ _ .same .nil))))), .old 16 16 _ _ _ rfl rfl (.data_eq rfl) .nil, rfl⟩
                    · skip
                      show ACall _ _ _ _ _ _
                      refine .hand [(16, 16)] (hp16 m2) [.c (.own 16), .int (mid + 1 : Nat), .int d, .int _] _ (.cons _ _ _ _ (.c _ _ (.own _ _ rfl)) (.cons _ _ _ _ (.int_eq hm1) (.cons _ _ _ _ .same (.cons _ _ _ _ .same .nil)))) (.old 16 16 _ _ _ rfl rfl (.data_eq rfl) .nil) rfl (ih (d - (mid + 1)) (by omega) m2 (mid + 1) d _ (Nat.le_refl _) (by omega) (by omega) g.low_right) ?_
                      rintro H r ⟨rfl, m3, rfl, g1, g2⟩ _ _
                      refine ⟨rfl, .inr ⟨rfl, rfl⟩, ?_⟩
                      show ARound _ _ _ _
                      exact ⟨⟨(m3, c, mid, lim, decide (IntKind.i64.wrap ((d : Int) - (mid : Int)) ≥ IntKind.i64.wrap ((IntKind.i64.wrap ((d : Int) - (c : Int))).tdiv 8)), z), hPP.right hbl g g1 g2⟩, by show mid - (c) < d - c; omega, [(16, 16)], .cons _ _ _ (.c _ _ (.own _ _ rfl)) (.cons _ _ _ .same (.cons _ _ _ .same (.cons _ _ _ .same (.cons _ _ _ .same (.cons _ _ _ .same .nil))))), .old 16 16 _ _ _ rfl rfl (.data_eq rfl) .nil, rfl⟩
                · show ABr _ _ _
                  refine ⟨fun hx => absurd hx (by decide), fun _ => ?_⟩
                  show ACall _ _ _ _ _ _
                  refine .hand [(16, 16)] (hp16 mp) [.c (.own 16), .int c, .int d, .int (q : Nat)] _ (.cons _ _ _ _ (.c _ _ (.own _ _ rfl)) (.cons _ _ _ _ .same (.cons _ _ _ _ .same (.cons _ _ _ _ .same .nil)))) (.old 16 16 _ _ _ rfl rfl (.data_eq rfl) .nil) rfl (part_spec mp c d q (by omega) (by omega) (by omega)) ?_
                  rintro H r ⟨mid, z, m2, rfl, rfl, g⟩ _ _
                  refine ⟨rfl, .inr ⟨rfl, rfl⟩, ?_⟩
                  obtain ⟨p1, p2⟩ : c ≤ mid ∧ mid < d := ⟨g.2.1, g.2.2.1⟩
                  have hm2 : m2.length = l.length := g.1.len.trans hPP.srt.len
                  have hm1 : IntKind.i64.wrap ((mid : Int) + 1) = ((mid + 1 : Nat) : Int) := wrapN (by omega) (by omega)
                  show AOb ((8 : Int) ≠ 0) _
                  refine ⟨by decide, ?_⟩
                  show ABr _ _ _
                  refine ⟨fun _ => ?_, fun _ => ?_⟩
                  · skip
                    show ACall _ _ _ _ _ _
                    refine .hand [(16, 16)] (hp16 m2) [.c (.own 16), .int c, .int mid, .int _] _ (.cons _ _ _ _ (.c _ _ (.own _ _ rfl)) (.cons _ _ _ _ .same (.cons _ _ _ _ .same (.cons _ _ _ _ .same .nil)))) (.old 16 16 _ _ _ rfl rfl (.data_eq rfl) .nil) rfl (ih (mid - c) (by omega) m2 c mid _ (Nat.le_refl _) p1 (by omega) (g.low_left (hPP.low hlow hbl) (by omega) hcd)) ?_
                    rintro H r ⟨rfl, m3, rfl, g1, g2⟩ _ _
                    refine ⟨rfl, .inr ⟨rfl, rfl⟩, ?_⟩
                    show ARound _ _ _ _
                    exact ⟨⟨(m3, mid + 1, d, lim, decide (IntKind.i64.wrap ((mid : Int) - (c : Int)) ≥ IntKind.i64.wrap ((IntKind.i64.wrap ((d : Int) - (c : Int))).tdiv 8)), z), hPP.left hbl g g1 g2⟩, by show d - (mid + 1) < d - c; omega, [(16, 16)], .cons _ _ _ (.c _ _ (.own _ _ rfl)) (.cons _ _ _ (.int_eq hm1) (.cons _ _ _ .same (.cons _ _ _ .same (.cons _ _ _ .same (.cons _ _ _ .same .nil))))), .old 16 16 _ _ _ rfl rfl (.data_eq rfl) .nil, rfl⟩
                  · skip
                    show ACall _ _ _ _ _ _
                    refine .hand [(16, 16)] (hp16 m2) [.c (.own 16), .int (mid + 1 : Nat), .int d, .int _] _ (.cons _ _ _ _ (.c _ _ (.own _ _ rfl)) (.cons _ _ _ _ (.int_eq hm1) (.cons _ _ _ _ .same (.cons _ _ _ _ .same .nil)))) (.old 16 16 _ _ _ rfl rfl (.data_eq rfl) .nil) rfl (ih (d - (mid + 1)) (by omega) m2 (mid + 1) d _ (Nat.le_refl _) (by omega) (by omega) g.low_right) ?_
                    rintro H r ⟨rfl, m3, rfl, g1, g2⟩ _ _
                    refine ⟨rfl, .inr ⟨rfl, rfl⟩, ?_⟩
                    show ARound _ _ _ _
                    exact ⟨⟨(m3, c, mid, lim, decide (IntKind.i64.wrap ((d : Int) - (mid : Int)) ≥ IntKind.i64.wrap ((IntKind.i64.wrap ((d : Int) - (c : Int))).tdiv 8)), z), hPP.right hbl g g1 g2⟩, by show mid - (c) < d - c; omega, [(16, 16)], .cons _ _ _ (.c _ _ (.own _ _ rfl)) (.cons _ _ _ .same (.cons _ _ _ .same (.cons _ _ _ .same (.cons _ _ _ .same (.cons _ _ _ .same .nil))))), .old 16 16 _ _ _ rfl rfl (.data_eq rfl) .nil, rfl⟩
            · skip
              show ABr (decide ((c : Int) > 0)) _ _
              refine ⟨fun hx => ?_, fun hx => ?_⟩
              · have hc0 : 0 < c := by simp at hx; omega
                have hwc : IntKind.i64.wrap ((c : Int) - 1) = ((c - 1 : Nat) : Int) := wrapN (by omega) (by omega)
                show AOb ((0 : Int) ≤ IntKind.i64.wrap ((c : Int) - 1) ∧ IntKind.i64.wrap ((c : Int) - 1) < (m.length : Int)) _
                refine ⟨by rw [hwc]; omega, ?_⟩
                show AOb ((IntKind.i64.wrap ((c : Int) - 1)).toNat < m.length) _
                refine ⟨by rw [hwc]; omega, ?_⟩
                show AOb ((0 : Int) ≤ (q : Int) ∧ (q : Int) < (m.length : Int)) _
                refine ⟨by omega, ?_⟩
                show AOb (((q : Int)).toNat < m.length) _
                refine ⟨by omega, ?_⟩
                have eq1 : (IntKind.i64.wrap ((c : Int) - 1)).toNat = c - 1 := by rw [hwc]; omega
                have eq2 : ((q : Int)).toNat = q := by omega
                show ADCall _ _ _ _ _ _
                refine .mk [] _ (Less_spec (at0 m (IntKind.i64.wrap ((c : Int) - 1)).toNat) (at0 m ((q : Int)).toNat)) rfl ?_
                rw [eq1, eq2]
                show ABr (!decide (at0 m (c - 1) < at0 m q)) _ _
                refine ⟨fun hz => ?_, fun _ => ?_⟩
                · skip
                  show ACall _ _ _ _ _ _
                  refine .hand [(16, 16)] (hp16 m) [.c (.own 16), .int c, .int d, .int (q : Nat)] _ (.cons _ _ _ _ (.c _ _ (.own _ _ rfl)) (.cons _ _ _ _ .same (.cons _ _ _ _ .same (.cons _ _ _ _ .same .nil)))) (.old 16 16 _ _ _ rfl rfl (.data_eq rfl) .nil) rfl (partEq_spec m c d q (by omega) (by omega) (by omega)) ?_
                  rintro H r ⟨mid, m2, rfl, rfl, g⟩ _ _
                  refine ⟨rfl, .inr ⟨rfl, rfl⟩, ?_⟩
                  show ARound _ _ _ _
                  exact ⟨⟨(m2, mid, d, lim, true, y), hPP.eq hbl ((hPP.low hlow hbl).piv hc0 (by simp at hz; omega)) g⟩, by have := g.2.1; show d - mid < d - c; omega, [(16, 16)], .cons _ _ _ (.c _ _ (.own _ _ rfl)) (.cons _ _ _ .same (.cons _ _ _ .same (.cons _ _ _ .same (.cons _ _ _ .same (.cons _ _ _ .same .nil))))), .old 16 16 _ _ _ rfl rfl (.data_eq rfl) .nil, rfl⟩
                · skip
                  show ACall _ _ _ _ _ _
                  refine .hand [(16, 16)] (hp16 m) [.c (.own 16), .int c, .int d, .int (q : Nat)] _ (.cons _ _ _ _ (.c _ _ (.own _ _ rfl)) (.cons _ _ _ _ .same (.cons _ _ _ _ .same (.cons _ _ _ _ .same .nil)))) (.old 16 16 _ _ _ rfl rfl (.data_eq rfl) .nil) rfl (part_spec m c d q (by omega) (by omega) (by omega)) ?_
                  rintro H r ⟨mid, z, m2, rfl, rfl, g⟩ _ _
                  refine ⟨rfl, .inr ⟨rfl, rfl⟩, ?_⟩
                  obtain ⟨p1, p2⟩ : c ≤ mid ∧ mid < d := ⟨g.2.1, g.2.2.1⟩
                  have hm2 : m2.length = l.length := g.1.len.trans hPP.srt.len
                  have hm1 : IntKind.i64.wrap ((mid : Int) + 1) = ((mid + 1 : Nat) : Int) := wrapN (by omega) (by omega)
                  show AOb ((8 : Int) ≠ 0) _
                  refine ⟨by decide, ?_⟩
                  show ABr _ _ _
                  refine ⟨fun _ => ?_, fun _ => ?_⟩
                  · skip
                    show ACall _ _ _ _ _ _
                    refine .hand [(16, 16)] (hp16 m2) [.c (.own 16), .int c, .int mid, .int _] _ (.cons _ _ _ _ (.c _ _ (.own _ _ rfl)) (.cons _ _ _ _ .same (.cons _ _ _ _ .same (.cons _ _ _ _ .same .nil)))) (.old 16 16 _ _ _ rfl rfl (.data_eq rfl) .nil) rfl (ih (mid - c) (by omega) m2 c mid _ (Nat.le_refl _) p1 (by omega) (g.low_left (hPP.low hlow hbl) (by omega) hcd)) ?_
                    rintro H r ⟨rfl, m3, rfl, g1, g2⟩ _ _
                    refine ⟨rfl, .inr ⟨rfl, rfl⟩, ?_⟩
                    show ARound _ _ _ _
                    exact ⟨⟨(m3, mid + 1, d, lim, decide (IntKind.i64.wrap ((mid : Int) - (c : Int)) ≥ IntKind.i64.wrap ((IntKind.i64.wrap ((d : Int) - (c : Int))).tdiv 8)), z), hPP.left hbl g g1 g2⟩, by show d - (mid + 1) < d - c; omega, [(16, 16)], .cons _ _ _ (.c _ _ (.own _ _ rfl)) (.cons _ _ _ (.int_eq hm1) (.cons _ _ _ .same (.cons _ _ _ .same (.cons _ _ _ .same (.cons _ _ _ .same .nil))))), .old 16 16 _ _ _ rfl rfl (.data_eq rfl) .nil, rfl⟩
                  · skip
                    show ACall _ _ _ _ _ _
                    refine .hand [(16, 16)] (hp16 m2) [.c (.own 16), .int (mid + 1 : Nat), .int d, .int _] _ (.cons _ _ _ _ (.c _ _ (.own _ _ rfl)) (.cons _ _ _ _ (.int_eq hm1) (.cons _ _ _ _ .same (.cons _ _ _ _ .same .nil)))) (.old 16 16 _ _ _ rfl rfl (.data_eq rfl) .nil) rfl (ih (d - (mid + 1)) (by omega) m2 (mid + 1) d _ (Nat.le_refl _) (by omega) (by omega) g.low_right) ?_
                    rintro H r ⟨rfl, m3, rfl, g1, g2⟩ _ _
                    refine ⟨rfl, .inr ⟨rfl, rfl⟩, ?_⟩
                    show ARound _ _ _ _
                    exact ⟨⟨(m3, c, mid, lim, decide (IntKind.i64.wrap ((d : Int) - (mid : Int)) ≥ IntKind.i64.wrap ((IntKind.i64.wrap ((d : Int) - (c : Int))).tdiv 8)), z), hPP.right hbl g g1 g2⟩, by show mid - (c) < d - c; omega, [(16, 16)], .cons _ _ _ (.c _ _ (.own _ _ rfl)) (.cons _ _ _ .same (.cons _ _ _ .same (.cons _ _ _ .same (.cons _ _ _ .same (.cons _ _ _ .same .nil))))), .old 16 16 _ _ _ rfl rfl (.data_eq rfl) .nil, rfl⟩
              · show ABr _ _ _
                refine ⟨fun hx => absurd hx (by decide), fun _ => ?_⟩
                show ACall _ _ _ _ _ _
                refine .hand [(16, 16)] (hp16 m) [.c (.own 16), .int c, .int d, .int (q : Nat)] _ (.cons _ _ _ _ (.c _ _ (.own _ _ rfl)) (.cons _ _ _ _ .same (.cons _ _ _ _ .same (.cons _ _ _ _ .same .nil)))) (.old 16 16 _ _ _ rfl rfl (.data_eq rfl) .nil) rfl (part_spec m c d q (by omega) (by omega) (by omega)) ?_
                rintro H r ⟨mid, z, m2, rfl, rfl, g⟩ _ _
                refine ⟨rfl, .inr ⟨rfl, rfl⟩, ?_⟩
                obtain ⟨p1, p2⟩ : c ≤ mid ∧ mid < d := ⟨g.2.1, g.2.2.1⟩
                have hm2 : m2.length = l.length := g.1.len.trans hPP.srt.len
                have hm1 : IntKind.i64.wrap ((mid : Int) + 1) = ((mid + 1 : Nat) : Int) := wrapN (by omega) (by omega)
                show AOb ((8 : Int) ≠ 0) _
                refine ⟨by decide, ?_⟩
                show ABr _ _ _
                refine ⟨fun _ => ?_, fun _ => ?_⟩
                · skip
                  show ACall _ _ _ _ _ _
                  refine .hand [(16, 16)] (hp16 m2) [.c (.own 16), .int c, .int mid, .int _] _ (.cons _ _ _ _ (.c _ _ (.own _ _ rfl)) (.cons _ _ _ _ .same (.cons _ _ _ _ .same (.cons _ _ _ _ .same .nil)))) (.old 16 16 _ _ _ rfl rfl (.data_eq rfl) .nil) rfl (ih (mid - c) (by omega) m2 c mid _ (Nat.le_refl _) p1 (by omega) (g.low_left (hPP.low hlow hbl) (by omega) hcd)) ?_
                  rintro H r ⟨rfl, m3, rfl, g1, g2⟩ _ _
                  refine ⟨rfl, .inr ⟨rfl, rfl⟩, ?_⟩
                  show ARound _ _ _ _
                  exact ⟨⟨(m3, mid + 1, d, lim, decide (IntKind.i64.wrap ((mid : Int) - (c : Int)) ≥ IntKind.i64.wrap ((IntKind.i64.wrap ((d : Int) - (c : Int))).tdiv 8)), z), hPP.left hbl g g1 g2⟩, by show d - (mid + 1) < d - c; omega, [(16, 16)], .cons _ _ _ (.c _ _ (.own _ _ rfl)) (.cons _ _ _ (.int_eq hm1) (.cons _ _ _ .same (.cons _ _ _ .same (.cons _ _ _ .same (.cons _ _ _ .same .nil))))), .old 16 16 _ _ _ rfl rfl (.data_eq rfl) .nil, rfl⟩
                · skip
                  show ACall _ _ _ _ _ _
                  refine .hand [(16, 16)] (hp16 m2) [.c (.own 16), .int (mid + 1 : Nat), .int d, .int _] _ (.cons _ _ _ _ (.c _ _ (.own _ _ rfl)) (.cons _ _ _ _ (.int_eq hm1) (.cons _ _ _ _ .same (.cons _ _ _ _ .same .nil)))) (.old 16 16 _ _ _ rfl rfl (.data_eq rfl) .nil) rfl (ih (d - (mid + 1)) (by omega) m2 (mid + 1) d _ (Nat.le_refl _) (by omega) (by omega) g.low_right) ?_
                  rintro H r ⟨rfl, m3, rfl, g1, g2⟩ _ _
                  refine ⟨rfl, .inr ⟨rfl, rfl⟩, ?_⟩
                  show ARound _ _ _ _
                  exact ⟨⟨(m3, c, mid, lim, decide (IntKind.i64.wrap ((d : Int) - (mid : Int)) ≥ IntKind.i64.wrap ((IntKind.i64.wrap ((d : Int) - (c : Int))).tdiv 8)), z), hPP.right hbl g g1 g2⟩, by show mid - (c) < d - c; omega, [(16, 16)], .cons _ _ _ (.c _ _ (.own _ _ rfl)) (.cons _ _ _ .same (.cons _ _ _ .same (.cons _ _ _ .same (.cons _ _ _ .same (.cons _ _ _ .same .nil))))), .old 16 16 _ _ _ rfl rfl (.data_eq rfl) .nil, rfl⟩

theorem Sort_spec (l : List Int) : Spec X 90 (hp16 l) [.c (.own 16)] (SortQ l 0 l.length) := by
  refine spec_go X_ok Tryz.f90 (by kernel_rfl) (by kernel_rfl) (by kernel_rfl) fun hb hH => ⟨rfl, ?_⟩
  show ACall _ _ _ _ _ _
  refine .mk _ (Len_spec (IntKind.u64.wrap l.length) (u64_wrap _).1 (u64_wrap _).2) ?_
  rintro H r ⟨rfl, n, _, _, rfl⟩ _ _
  refine ⟨.inl rfl, ?_⟩
  show ACall _ _ _ _ _ _
  refine .hand [(16, 16)] (hp16 l) [.c (.own 16), .int (0 : Nat), .int l.length, .int n] (SortQ l 0 l.length) (.cons _ _ _ _ (.c _ _ (.own _ _ rfl)) (.cons _ _ _ _ .same (.cons _ _ _ _ .same (.cons _ _ _ _ .same .nil)))) (.old 16 16 _ _ _ rfl rfl (.data_eq rfl) .nil) rfl (pdq_all l.length l 0 l.length n (by omega) (Nat.zero_le _) (Nat.le_refl _) (fun h => absurd h (Nat.lt_irrefl 0))) ?_
  rintro H r ⟨rfl, l', rfl, h1, h2⟩ _ _
  refine ⟨rfl, .inr ⟨rfl, rfl⟩, ?_⟩
  show ARet _ _ _
  exact ⟨[(16, 16)], hp16 l', [], .nil, .old 16 16 _ _ _ rfl rfl (.data_eq rfl) .nil, rfl, rfl, l', rfl, h1, h2⟩

end Go.Abs
