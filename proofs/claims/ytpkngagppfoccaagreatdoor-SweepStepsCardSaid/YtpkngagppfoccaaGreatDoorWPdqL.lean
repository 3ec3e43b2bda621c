/- What the parts of a sort keep; walks of its smaller ones. -/
import Derived.Test.YtpkngagppfoccaaGreatDoorWSort
set_option linter.all false
set_option linter.unusedVariables false
set_option linter.unusedSimpArgs false
namespace Go.Abs
open Go.Proofs Go.Proofs.YtpkngagppfoccaaGreatDoor
set_option maxRecDepth 8000

abbrev hps (l : List Int) (s : Int) : Heap := [(16, .data .int l), (17, .vars [.d (.int s)])]

theorem order2_spec (l : List Int) (s : Int) (a b : Nat) (ha : a < l.length) (hb : b < l.length) : Spec X 153 (hps l s) [.c (.own 16), .int a, .int b, .c (.ptr 17 0 0)]
    (fun H r => ∃ (s' : Int) (x y : Nat), H = hps l s' ∧ r = .tup [.int x, .int y] ∧ ((x = a ∧ y = b) ∨ (x = b ∧ y = a))) := by
  refine spec_go X_ok Tryz.f153 (by kernel_rfl) (by kernel_rfl) (by kernel_rfl) fun hbd hH => ⟨rfl, ?_⟩
  show AOb ((0 : Int) ≤ (b : Int) ∧ (b : Int) < (l.length : Int)) _
  refine ⟨by omega, ?_⟩
  show AOb ((b : Int).toNat < l.length) _
  refine ⟨by omega, ?_⟩
  show AOb ((0 : Int) ≤ (a : Int) ∧ (a : Int) < (l.length : Int)) _
  refine ⟨by omega, ?_⟩
  show AOb ((a : Int).toNat < l.length) _
  refine ⟨by omega, ?_⟩
  show ADCall _ _ _ _ _ _
  refine .mk [] _ (Less_spec (at0 l b) (at0 l a)) rfl ?_
  show ABr _ _ _
  refine ⟨fun _ => ?_, fun _ => ?_⟩
  · show ARet _ _ _
    exact ⟨[(16, 16), (17, 17)], hps l (IntKind.i64.wrap (s + 1)), [.int b, .int a], .cons _ _ _ _ .same (.cons _ _ _ _ .same .nil), .old 16 16 _ _ _ rfl rfl (.data_eq rfl) (.old 17 17 _ _ _ rfl rfl (.vars _ _ (LeL_refl rfl)) .nil), rfl, _, b, a, rfl, rfl, .inr ⟨rfl, rfl⟩⟩
  · show ARet _ _ _
    exact ⟨[(16, 16), (17, 17)], hps l s, [.int a, .int b], .cons _ _ _ _ .same (.cons _ _ _ _ .same .nil), .old 16 16 _ _ _ rfl rfl (.data_eq rfl) (.old 17 17 _ _ _ rfl rfl (.vars _ _ (LeL_refl rfl)) .nil), rfl, _, a, b, rfl, rfl, .inl ⟨rfl, rfl⟩⟩

theorem median_spec (l : List Int) (s : Int) (a b c : Nat) (ha : a < l.length) (hb : b < l.length) (hc : c < l.length) : Spec X 148 (hps l s) [.c (.own 16), .int a, .int b, .int c, .c (.ptr 17 0 0)]
    (fun H r => ∃ (s' : Int) (x : Nat), H = hps l s' ∧ r = .int x ∧ (x = a ∨ x = b ∨ x = c)) := by
  refine spec_go X_ok Tryz.f148 (by kernel_rfl) (by kernel_rfl) (by kernel_rfl) fun hbd hH => ⟨rfl, ?_⟩
  show ACall _ _ _ _ _ _
  refine .hand [(16, 16), (17, 17)] (hps l s) [.c (.own 16), .int a, .int b, .c (.ptr 17 0 0)] _ (.cons _ _ _ _ (.c _ _ (.own _ _ rfl)) (.cons _ _ _ _ .same (.cons _ _ _ _ .same (.cons _ _ _ _ (.c _ _ (.ptr _ _ _ _ rfl)) .nil)))) (.old 16 16 _ _ _ rfl rfl (.data_eq rfl) (.old 17 17 _ _ _ rfl rfl (.vars _ _ (LeL_refl rfl)) .nil)) rfl (order2_spec l s a b ha hb) ?_
  rintro H r ⟨s1, a1, b1, rfl, rfl, h1⟩ _ _
  refine ⟨rfl, .inr ⟨rfl, rfl⟩, ?_⟩
  have hb1 : b1 < l.length := by rcases h1 with ⟨_, e⟩ | ⟨_, e⟩ <;> omega
  have ha1 : a1 < l.length := by rcases h1 with ⟨e, _⟩ | ⟨e, _⟩ <;> omega
  show ACall _ _ _ _ _ _
  refine .hand [(16, 16), (17, 17)] (hps l s1) [.c (.own 16), .int b1, .int c, .c (.ptr 17 0 0)] _ (.cons _ _ _ _ (.c _ _ (.own _ _ rfl)) (.cons _ _ _ _ .same (.cons _ _ _ _ .same (.cons _ _ _ _ (.c _ _ (.ptr _ _ _ _ rfl)) .nil)))) (.old 16 16 _ _ _ rfl rfl (.data_eq rfl) (.old 17 17 _ _ _ rfl rfl (.vars _ _ (LeL_refl rfl)) .nil)) rfl (order2_spec l s1 b1 c hb1 hc) ?_
  rintro H r ⟨s2, b2, c2, rfl, rfl, h2⟩ _ _
  refine ⟨rfl, .inr ⟨rfl, rfl⟩, ?_⟩
  have hb2 : b2 < l.length := by rcases h2 with ⟨e, _⟩ | ⟨e, _⟩ <;> omega
  show ACall _ _ _ _ _ _
  refine .hand [(16, 16), (17, 17)] (hps l s2) [.c (.own 16), .int a1, .int b2, .c (.ptr 17 0 0)] _ (.cons _ _ _ _ (.c _ _ (.own _ _ rfl)) (.cons _ _ _ _ .same (.cons _ _ _ _ .same (.cons _ _ _ _ (.c _ _ (.ptr _ _ _ _ rfl)) .nil)))) (.old 16 16 _ _ _ rfl rfl (.data_eq rfl) (.old 17 17 _ _ _ rfl rfl (.vars _ _ (LeL_refl rfl)) .nil)) rfl (order2_spec l s2 a1 b2 ha1 hb2) ?_
  rintro H r ⟨s3, a3, b3, rfl, rfl, h3⟩ _ _
  refine ⟨rfl, .inr ⟨rfl, rfl⟩, ?_⟩
  show ARet _ _ _
  refine ⟨[(16, 16), (17, 17)], hps l s3, [.int b3], .cons _ _ _ _ .same .nil, .old 16 16 _ _ _ rfl rfl (.data_eq rfl) (.old 17 17 _ _ _ rfl rfl (.vars _ _ (LeL_refl rfl)) .nil), rfl, _, b3, rfl, rfl, ?_⟩
  omega

theorem medianAdj_spec (l : List Int) (s : Int) (a : Nat) (h0 : 0 < a) (ha : a + 1 < l.length) (hm : l.length ≤ maxN) : Spec X 147 (hps l s) [.c (.own 16), .int a, .c (.ptr 17 0 0)]
    (fun H r => ∃ (s' : Int) (x : Nat), H = hps l s' ∧ r = .int x ∧ (a - 1 ≤ x ∧ x ≤ a + 1)) := by
  refine spec_go X_ok Tryz.f147 (by kernel_rfl) (by kernel_rfl) (by kernel_rfl) fun hbd hH => ⟨rfl, ?_⟩
  have w1 : IntKind.i64.wrap ((a : Int) - 1) = ((a - 1 : Nat) : Int) := wrapM (by omega) h0
  have w2 : IntKind.i64.wrap ((a : Int) + 1) = ((a + 1 : Nat) : Int) := wrapP (by omega)
  show ACall _ _ _ _ _ _
  refine .hand [(16, 16), (17, 17)] (hps l s) [.c (.own 16), .int (a - 1 : Nat), .int a, .int (a + 1 : Nat), .c (.ptr 17 0 0)] _ (.cons _ _ _ _ (.c _ _ (.own _ _ rfl)) (.cons _ _ _ _ (.int_eq w1) (.cons _ _ _ _ .same (.cons _ _ _ _ (.int_eq w2) (.cons _ _ _ _ (.c _ _ (.ptr _ _ _ _ rfl)) .nil))))) (.old 16 16 _ _ _ rfl rfl (.data_eq rfl) (.old 17 17 _ _ _ rfl rfl (.vars _ _ (LeL_refl rfl)) .nil)) rfl (median_spec l s (a - 1) a (a + 1) (by omega) (by omega) ha) ?_
  rintro H r ⟨s1, x, rfl, rfl, h1⟩ _ _
  refine ⟨rfl, .inr ⟨rfl, rfl⟩, ?_⟩
  show ARet _ _ _
  refine ⟨[(16, 16), (17, 17)], hps l s1, [.int x], .cons _ _ _ _ .same .nil, .old 16 16 _ _ _ rfl rfl (.data_eq rfl) (.old 17 17 _ _ _ rfl rfl (.vars _ _ (LeL_refl rfl)) .nil), rfl, _, x, rfl, rfl, ?_⟩
  omega
end Go.Abs

namespace Go.Abs
open Go.Proofs Go.Proofs.YtpkngagppfoccaaGreatDoor
set_option maxRecDepth 8000

theorem wrapN {z : Int} {n : Nat} (h : z = (n : Int)) (hn : n ≤ 4503599627370496) : IntKind.i64.wrap z = ((n : Nat) : Int) := by
  rw [h, wrap64 (by omega) (by omega)]

theorem tdivN (n k : Nat) : ((n : Int)).tdiv (k : Int) = ((n / k : Nat) : Int) := by
  rw [Int.ofNat_tdiv]

def PivQ (l : List Int) (a b : Nat) : Heap → TV → Prop := fun H r => ∃ (p : Nat) (hint : Int), H = hp16 l ∧ r = .tup [.int p, .int hint] ∧ a ≤ p ∧ p < b

set_option maxHeartbeats 4000000 in
theorem choosePivot_spec (l : List Int) (a b : Nat) (h12 : a + 12 < b) (hb : b ≤ l.length) : Spec X 133 (hp16 l) [.c (.own 16), .int a, .int b] (PivQ l a b) := by
  refine spec_go X_ok Tryz.f133 (by kernel_rfl) (by kernel_rfl) (by kernel_rfl) fun hbd hH => ⟨rfl, ?_⟩
  have hmax : l.length ≤ maxN := hH 16 .int l rfl
  have hmx : l.length ≤ 140737488355328 := hmax
  have hL : IntKind.i64.wrap ((b : Int) - (a : Int)) = ((b - a : Nat) : Int) := wrapN (by omega) (by omega)
  have hD : ((IntKind.i64.wrap ((b : Int) - (a : Int))).tdiv 4) = (((b - a) / 4 : Nat) : Int) := by rw [hL]; exact tdivN _ 4
  have hQ : IntKind.i64.wrap ((IntKind.i64.wrap ((b : Int) - (a : Int))).tdiv 4) = (((b - a) / 4 : Nat) : Int) := wrapN hD (by omega)
  have hM1 : IntKind.i64.wrap (IntKind.i64.wrap ((IntKind.i64.wrap ((b : Int) - (a : Int))).tdiv 4) * 1) = (((b - a) / 4 * 1 : Nat) : Int) := wrapN (by rw [hQ]; omega) (by omega)
  have hA1 : IntKind.i64.wrap ((a : Int) + IntKind.i64.wrap (IntKind.i64.wrap ((IntKind.i64.wrap ((b : Int) - (a : Int))).tdiv 4) * 1)) = ((a + (b - a) / 4 * 1 : Nat) : Int) := wrapN (by rw [hM1]; omega) (by omega)
  have hM2 : IntKind.i64.wrap (IntKind.i64.wrap ((IntKind.i64.wrap ((b : Int) - (a : Int))).tdiv 4) * 2) = (((b - a) / 4 * 2 : Nat) : Int) := wrapN (by rw [hQ]; omega) (by omega)
  have hA2 : IntKind.i64.wrap ((a : Int) + IntKind.i64.wrap (IntKind.i64.wrap ((IntKind.i64.wrap ((b : Int) - (a : Int))).tdiv 4) * 2)) = ((a + (b - a) / 4 * 2 : Nat) : Int) := wrapN (by rw [hM2]; omega) (by omega)
  have hM3 : IntKind.i64.wrap (IntKind.i64.wrap ((IntKind.i64.wrap ((b : Int) - (a : Int))).tdiv 4) * 3) = (((b - a) / 4 * 3 : Nat) : Int) := wrapN (by rw [hQ]; omega) (by omega)
  have hA3 : IntKind.i64.wrap ((a : Int) + IntKind.i64.wrap (IntKind.i64.wrap ((IntKind.i64.wrap ((b : Int) - (a : Int))).tdiv 4) * 3)) = ((a + (b - a) / 4 * 3 : Nat) : Int) := wrapN (by rw [hM3]; omega) (by omega)
  show AOb ((4 : Int) ≠ 0) _
  refine ⟨by decide, ?_⟩
  show AOb ((4 : Int) ≠ 0) _
  refine ⟨by decide, ?_⟩
  show AOb ((4 : Int) ≠ 0) _
  refine ⟨by decide, ?_⟩
  show ABr (decide (IntKind.i64.wrap ((b : Int) - (a : Int)) ≥ 8)) _ _
  refine ⟨fun _ => ?_, fun h => absurd h (by rw [hL]; simp; omega)⟩
  show ABr (decide (IntKind.i64.wrap ((b : Int) - (a : Int)) ≥ 50)) _ _
  refine ⟨fun h50 => ?_, fun h50 => ?_⟩
  · have h50 : 50 ≤ b - a := by rw [hL] at h50; simp at h50; omega
    show ACall _ _ _ _ _ _
    refine .hand [(16, 16), (224, 17)] (hps l 0) [.c (.own 16), .int (a + (b - a) / 4 * 1 : Nat), .c (.ptr 17 0 0)] _ (.cons _ _ _ _ (.c _ _ (.own _ _ rfl)) (.cons _ _ _ _ (.int_eq hA1)  (.cons _ _ _ _ (.c _ _ (.ptr _ _ _ _ rfl)) .nil))) (.old 16 16 _ _ _ rfl rfl (.data_eq rfl) (.old 17 224 _ _ _ rfl rfl (.vars _ _ (LeL_refl rfl)) .nil)) rfl (medianAdj_spec l 0 (a + (b - a) / 4 * 1) (by omega) (by omega) hmax) ?_
    rintro H r ⟨s1, x1, rfl, rfl, q1⟩ _ _
    refine ⟨rfl, .inr ⟨rfl, rfl⟩, ?_⟩
    show ACall _ _ _ _ _ _
    refine .hand [(16, 16), (224, 17)] (hps l s1) [.c (.own 16), .int (a + (b - a) / 4 * 2 : Nat), .c (.ptr 17 0 0)] _ (.cons _ _ _ _ (.c _ _ (.own _ _ rfl)) (.cons _ _ _ _ (.int_eq hA2)  (.cons _ _ _ _ (.c _ _ (.ptr _ _ _ _ rfl)) .nil))) (.old 16 16 _ _ _ rfl rfl (.data_eq rfl) (.old 17 224 _ _ _ rfl rfl (.vars _ _ (LeL_refl rfl)) .nil)) rfl (medianAdj_spec l s1 (a + (b - a) / 4 * 2) (by omega) (by omega) hmax) ?_
    rintro H r ⟨s2, x2, rfl, rfl, q2⟩ _ _
    refine ⟨rfl, .inr ⟨rfl, rfl⟩, ?_⟩
    show ACall _ _ _ _ _ _
    refine .hand [(16, 16), (224, 17)] (hps l s2) [.c (.own 16), .int (a + (b - a) / 4 * 3 : Nat), .c (.ptr 17 0 0)] _ (.cons _ _ _ _ (.c _ _ (.own _ _ rfl)) (.cons _ _ _ _ (.int_eq hA3)  (.cons _ _ _ _ (.c _ _ (.ptr _ _ _ _ rfl)) .nil))) (.old 16 16 _ _ _ rfl rfl (.data_eq rfl) (.old 17 224 _ _ _ rfl rfl (.vars _ _ (LeL_refl rfl)) .nil)) rfl (medianAdj_spec l s2 (a + (b - a) / 4 * 3) (by omega) (by omega) hmax) ?_
    rintro H r ⟨s3, x3, rfl, rfl, q3⟩ _ _
    refine ⟨rfl, .inr ⟨rfl, rfl⟩, ?_⟩
    show ACall _ _ _ _ _ _
    refine .hand [(16, 16), (224, 17)] (hps l s3) [.c (.own 16), .int x1, .int x2, .int x3, .c (.ptr 17 0 0)] _ (.cons _ _ _ _ (.c _ _ (.own _ _ rfl)) (.cons _ _ _ _ .same (.cons _ _ _ _ .same (.cons _ _ _ _ .same  (.cons _ _ _ _ (.c _ _ (.ptr _ _ _ _ rfl)) .nil))))) (.old 16 16 _ _ _ rfl rfl (.data_eq rfl) (.old 17 224 _ _ _ rfl rfl (.vars _ _ (LeL_refl rfl)) .nil)) rfl (median_spec l s3 x1 x2 x3 (by omega) (by omega) (by omega)) ?_
    rintro H r ⟨s4, x4, rfl, rfl, q4⟩ _ _
    refine ⟨rfl, .inr ⟨rfl, rfl⟩, ?_⟩
    show ABr (decide (s4 = 0)) _ _
    refine ⟨fun _ => ?_, fun _ => ?_⟩
    · show ARet _ _ _
      refine ⟨[(16, 16)], hp16 l, [.int x4, .int 1], .cons _ _ _ _ .same (.cons _ _ _ _ .same .nil), .old 16 16 _ _ _ rfl rfl (.data_eq rfl) .nil, rfl, x4, 1, rfl, rfl, ?_, ?_⟩ <;> omega
    · show ABr (decide (s4 = 12)) _ _
      refine ⟨fun _ => ?_, fun _ => ?_⟩
      · show ARet _ _ _
        refine ⟨[(16, 16)], hp16 l, [.int x4, .int 2], .cons _ _ _ _ .same (.cons _ _ _ _ .same .nil), .old 16 16 _ _ _ rfl rfl (.data_eq rfl) .nil, rfl, x4, 2, rfl, rfl, ?_, ?_⟩ <;> omega
      · show ARet _ _ _
        refine ⟨[(16, 16)], hp16 l, [.int x4, .int 0], .cons _ _ _ _ .same (.cons _ _ _ _ .same .nil), .old 16 16 _ _ _ rfl rfl (.data_eq rfl) .nil, rfl, x4, 0, rfl, rfl, ?_, ?_⟩ <;> omega
  · have h50 : b - a < 50 := by rw [hL] at h50; simp at h50; omega
    show ACall _ _ _ _ _ _
    refine .hand [(16, 16), (224, 17)] (hps l 0) [.c (.own 16), .int (a + (b - a) / 4 * 1 : Nat), .int (a + (b - a) / 4 * 2 : Nat), .int (a + (b - a) / 4 * 3 : Nat), .c (.ptr 17 0 0)] _ (.cons _ _ _ _ (.c _ _ (.own _ _ rfl)) (.cons _ _ _ _ (.int_eq hA1) (.cons _ _ _ _ (.int_eq hA2) (.cons _ _ _ _ (.int_eq hA3)  (.cons _ _ _ _ (.c _ _ (.ptr _ _ _ _ rfl)) .nil))))) (.old 16 16 _ _ _ rfl rfl (.data_eq rfl) (.old 17 224 _ _ _ rfl rfl (.vars _ _ (LeL_refl rfl)) .nil)) rfl (median_spec l 0 (a + (b - a) / 4 * 1) (a + (b - a) / 4 * 2) (a + (b - a) / 4 * 3) (by omega) (by omega) (by omega)) ?_
    rintro H r ⟨s4, x4, rfl, rfl, q4⟩ _ _
    refine ⟨rfl, .inr ⟨rfl, rfl⟩, ?_⟩
    show ABr (decide (s4 = 0)) _ _
    refine ⟨fun _ => ?_, fun _ => ?_⟩
    · show ARet _ _ _
      refine ⟨[(16, 16)], hp16 l, [.int x4, .int 1], .cons _ _ _ _ .same (.cons _ _ _ _ .same .nil), .old 16 16 _ _ _ rfl rfl (.data_eq rfl) .nil, rfl, x4, 1, rfl, rfl, ?_, ?_⟩ <;> omega
    · show ABr (decide (s4 = 12)) _ _
      refine ⟨fun _ => ?_, fun _ => ?_⟩
      · show ARet _ _ _
        refine ⟨[(16, 16)], hp16 l, [.int x4, .int 2], .cons _ _ _ _ .same (.cons _ _ _ _ .same .nil), .old 16 16 _ _ _ rfl rfl (.data_eq rfl) .nil, rfl, x4, 2, rfl, rfl, ?_, ?_⟩ <;> omega
      · show ARet _ _ _
        refine ⟨[(16, 16)], hp16 l, [.int x4, .int 0], .cons _ _ _ _ .same (.cons _ _ _ _ .same .nil), .old 16 16 _ _ _ rfl rfl (.data_eq rfl) .nil, rfl, x4, 0, rfl, rfl, ?_, ?_⟩ <;> omega
end Go.Abs

namespace Go.Abs

theorem split3 (l : List Int) (a b : Nat) (h : a ≤ b) : l = l.take a ++ ((l.drop a).take (b - a) ++ l.drop b) := by
  have e : l.drop b = (l.drop a).drop (b - a) := by rw [List.drop_drop]; congr 1; omega
  rw [e, List.take_append_drop, List.take_append_drop]

theorem Srt.seg {l l' : List Int} {a b : Nat} (h : Srt l l' a b) (hab : a ≤ b) : ((l'.drop a).take (b - a)).Perm ((l.drop a).take (b - a)) := by
  have e1 : l'.take a = l.take a := by
    refine List.ext_getElem? fun i => ?_
    rw [List.getElem?_take, List.getElem?_take]
    split
    · exact h.out i (.inl (by assumption))
    · rfl
  have e2 : l'.drop b = l.drop b := by
    refine List.ext_getElem? fun i => ?_
    rw [List.getElem?_drop, List.getElem?_drop]
    exact h.out _ (.inr (by omega))
  have hp := h.perm
  rw [split3 l' a b hab, split3 l a b hab, e1, e2] at hp
  exact (List.perm_append_right_iff _).1 ((List.perm_append_left_iff _).1 hp)

theorem mem_seg {l : List Int} {a b : Nat} (hb : b ≤ l.length) {x : Int} : x ∈ (l.drop a).take (b - a) ↔ ∃ i, a ≤ i ∧ i < b ∧ at0 l i = x := by
  constructor
  · intro h
    obtain ⟨i, hi, he⟩ := List.mem_iff_getElem.1 h
    have hi' : i < b - a := by simp at hi; omega
    refine ⟨a + i, by omega, by omega, ?_⟩
    rw [← he, List.getElem_take, List.getElem_drop, at0, List.getD_eq_getElem?_getD, List.getElem?_eq_getElem (by omega)]
    rfl
  · rintro ⟨i, h1, h2, rfl⟩
    refine List.mem_iff_getElem.2 ⟨i - a, by simp; omega, ?_⟩
    rw [List.getElem_take, List.getElem_drop, at0, List.getD_eq_getElem?_getD, List.getElem?_eq_getElem (by omega)]
    simp only [Option.getD_some]
    congr 1
    omega

/-- What stands between the bounds stood there. -/
theorem Srt.was {l l' : List Int} {a b : Nat} (h : Srt l l' a b) (hab : a ≤ b) (hb : b ≤ l.length) {i : Nat} (h1 : a ≤ i) (h2 : i < b) : ∃ j, a ≤ j ∧ j < b ∧ at0 l j = at0 l' i := by
  have := (h.seg hab).mem_iff.1 ((mem_seg (by rw [h.len]; exact hb)).2 ⟨i, h1, h2, rfl⟩)
  exact (mem_seg hb).1 this

theorem Srt.at_out {l l' : List Int} {a b : Nat} (h : Srt l l' a b) {i : Nat} (hi : i < a ∨ b ≤ i) : at0 l' i = at0 l i := by
  unfold at0
  rw [List.getD_eq_getElem?_getD, List.getD_eq_getElem?_getD, h.out i hi]

theorem Srt.widen {l l' : List Int} {a b a' b' : Nat} (h : Srt l l' a b) (ha : a' ≤ a) (hb : b ≤ b') : Srt l l' a' b' :=
  ⟨h.len, fun i hi => h.out i (by omega), h.perm⟩

/-- From lo on, each is no less than what hangs below it; f: where the heap begins. -/
def HeapAt (m : List Int) (f lo hi : Nat) : Prop := ∀ i j, lo ≤ i → (j = 2 * i + 1 ∨ j = 2 * i + 2) → j < hi → at0 m (f + j) ≤ at0 m (f + i)

structure Sift (l m : List Int) (f lo hi r : Nat) : Prop where
  srt : Srt l m f (f + hi)
  lor : lo ≤ r
  h1 : ∀ i j, lo ≤ i → i ≠ r → (j = 2 * i + 1 ∨ j = 2 * i + 2) → j < hi → at0 m (f + j) ≤ at0 m (f + i)
  h2 : ∀ p j, lo ≤ p → (r = 2 * p + 1 ∨ r = 2 * p + 2) → (j = 2 * r + 1 ∨ j = 2 * r + 2) → j < hi → at0 m (f + j) ≤ at0 m (f + p)

theorem Sift.start {l : List Int} {f lo hi : Nat} (h : HeapAt l f (lo + 1) hi) : Sift l l f lo hi lo :=
  ⟨.refl _ _ _, Nat.le_refl _, fun i j h1 h2 h3 h4 => h i j (by omega) h3 h4, fun p j h1 h2 => by omega⟩

theorem Sift.none {l m : List Int} {f lo hi r : Nat} (h : Sift l m f lo hi r) (hc : hi ≤ 2 * r + 1) : HeapAt m f lo hi := fun i j h1 h2 h3 => by
  by_cases hi : i = r
  · subst hi; omega
  · exact h.h1 i j h1 hi h2 h3

theorem Sift.stop {l m : List Int} {f lo hi r c : Nat} (h : Sift l m f lo hi r) (hc : c = 2 * r + 1 ∨ c = 2 * r + 2) (hbig : ∀ j, (j = 2 * r + 1 ∨ j = 2 * r + 2) → j < hi → at0 m (f + j) ≤ at0 m (f + c)) (hx : at0 m (f + c) ≤ at0 m (f + r)) : HeapAt m f lo hi := fun i j h1 h2 h3 => by
  by_cases hi : i = r
  · subst hi; exact Int.le_trans (hbig j h2 h3) hx
  · exact h.h1 i j h1 hi h2 h3

theorem Sift.step {l m : List Int} {f lo hi r c : Nat} (h : Sift l m f lo hi r) (hl : f + hi ≤ l.length) (hc : c = 2 * r + 1 ∨ c = 2 * r + 2) (hch : c < hi) (hbig : ∀ j, (j = 2 * r + 1 ∨ j = 2 * r + 2) → j < hi → at0 m (f + j) ≤ at0 m (f + c)) (hx : at0 m (f + r) < at0 m (f + c)) :
    Sift l (swp m (f + r) (f + c)) f lo hi c := by
  have hml := h.srt.len
  have hat := swp_at m (f + r) (f + c)
  have hlor := h.lor
  have A : ∀ k, at0 (swp m (f + r) (f + c)) (f + k) = if k = c then at0 m (f + r) else if k = r then at0 m (f + c) else at0 m (f + k) := fun k => by
    rw [hat (f + k) (by omega) (by omega)]
    by_cases h1 : k = c
    · rw [if_pos h1, if_pos (by omega)]
    · rw [if_neg h1, if_neg (by omega)]
      by_cases h2 : k = r
      · rw [if_pos h2, if_pos (by omega)]
      · rw [if_neg h2, if_neg (by omega)]
  refine ⟨h.srt.trans (swp_srt m (f + r) (f + c) f (f + hi) (by omega) (by omega) (by omega) (by omega) (by omega)), by omega, fun i j h1 h2 h3 h4 => ?_, fun p j h1 h2 h3 h4 => ?_⟩
  · rw [A j, A i, if_neg h2]
    by_cases hir : i = r
    · subst hir
      rw [if_pos rfl]
      by_cases hjc : j = c
      · rw [if_pos hjc]; omega
      · rw [if_neg hjc, if_neg (by omega)]; exact hbig j h3 h4
    · rw [if_neg hir]
      by_cases hjc : j = c
      · omega
      · rw [if_neg hjc]
        by_cases hjr : j = r
        · rw [if_pos hjr]
          subst hjr
          exact h.h2 i c h1 h3 hc hch
        · rw [if_neg hjr]; exact h.h1 i j h1 hir h3 h4
  · have hp : p = r := by omega
    subst hp
    rw [A j, A p, if_neg (by omega), if_neg (by omega), if_neg (by omega), if_pos rfl]
    exact h.h1 c j (by omega) (by omega) h3 h4

/-- The first of a heap is no less than any. -/
theorem heap_top {m : List Int} {f hi : Nat} (h : HeapAt m f 0 hi) : ∀ j, j < hi → at0 m (f + j) ≤ at0 m f := by
  intro j
  induction j using Nat.strongRecOn with
  | _ j ih =>
    intro hj
    by_cases h0 : j = 0
    · subst h0; exact Int.le_refl _
    · have h1 := h ((j - 1) / 2) j (Nat.zero_le _) (by omega) hj
      exact Int.le_trans h1 (ih _ (by omega) (by omega))

/-- Where the second half of the heap sort stands: i are still in the heap. -/
structure HS (l m : List Int) (f n i : Nat) : Prop where
  srt : Srt l m f (f + n)
  hin : i ≤ n
  heap : HeapAt m f 0 i
  sorted : ∀ p q, i ≤ p → p < q → q < n → at0 m (f + p) ≤ at0 m (f + q)
  above : ∀ p q, p < i → i ≤ q → q < n → at0 m (f + p) ≤ at0 m (f + q)

theorem HS.start {l m : List Int} {f n : Nat} (h : Srt l m f (f + n)) (hh : HeapAt m f 0 n) : HS l m f n n :=
  ⟨h, Nat.le_refl _, hh, fun p q h1 h2 h3 => by omega, fun p q h1 h2 h3 => by omega⟩

/-- The swap of the first and the last, and what the sifting of the rest leaves. -/
theorem HS.step {l m m' : List Int} {f n i : Nat} (h : HS l m f n (i + 1)) (hl : f + n ≤ l.length) (hs : Srt (swp m f (f + i)) m' f (f + i)) (hh : HeapAt m' f 0 i) : HS l m' f n i := by
  have hml := h.srt.len
  have hin := h.hin
  have hat := swp_at m f (f + i)
  have top := heap_top h.heap
  have s1 : Srt l (swp m f (f + i)) f (f + n) := h.srt.trans (swp_srt m f (f + i) f (f + n) (by omega) (by omega) (by omega) (by omega) (by omega))
  have A : ∀ k, at0 (swp m f (f + i)) (f + k) = if k = i then at0 m f else if k = 0 then at0 m (f + i) else at0 m (f + k) := fun k => by
    rw [hat (f + k) (by omega) (by omega)]
    by_cases h1 : k = i
    · rw [if_pos h1, if_pos (by omega)]
    · rw [if_neg h1, if_neg (by omega)]
      by_cases h2 : k = 0
      · rw [if_pos h2, if_pos (by omega)]
      · rw [if_neg h2, if_neg (by omega)]
  have hout : ∀ k, i ≤ k → at0 m' (f + k) = at0 (swp m f (f + i)) (f + k) := fun k hk => hs.at_out (.inr (by omega))
  -- all that are left in the heap are no more than the first was
  have hle : ∀ k, k ≤ i → at0 (swp m f (f + i)) (f + k) ≤ at0 m f := fun k hk => by
    rw [A k]
    by_cases h1 : k = i
    · rw [if_pos h1]; exact Int.le_refl _
    · rw [if_neg h1]
      by_cases h2 : k = 0
      · rw [if_pos h2]; exact top i (by omega)
      · rw [if_neg h2]; exact top k (by omega)
  have hab : ∀ k q, k ≤ i → i < q → q < n → at0 (swp m f (f + i)) (f + k) ≤ at0 (swp m f (f + i)) (f + q) := fun k q hk hq hqn => by
    rw [A q, if_neg (by omega), if_neg (by omega)]
    refine Int.le_trans (hle k hk) ?_
    have := h.above 0 q (by omega) (by omega) hqn
    rwa [Nat.add_zero] at this
  refine ⟨s1.trans (hs.widen (Nat.le_refl _) (by omega)), by omega, hh, fun p q h1 h2 h3 => ?_, fun p q h1 h2 h3 => ?_⟩
  · rw [hout p h1, hout q (by omega)]
    by_cases hp : p = i
    · subst hp; exact hab p q (Nat.le_refl _) h2 h3
    · rw [A p, A q, if_neg hp, if_neg (by omega), if_neg (by omega), if_neg (by omega)]
      exact h.sorted p q (by omega) h2 h3
  · obtain ⟨j, j1, j2, j3⟩ := hs.was (by omega) (by rw [s1.len]; omega) (i := f + p) (by omega) (by omega)
    rw [← j3, hout q h2]
    have e : j = f + (j - f) := by omega
    rw [e]
    by_cases hq : q = i
    · subst hq
      rw [A q, if_pos rfl]
      exact hle _ (by omega)
    · exact hab _ q (by omega) (by omega) h3

theorem HS.done {l m : List Int} {f n : Nat} (h : HS l m f n 0) : Sorted m f (f + n) := fun i j h1 h2 h3 => by
  have := h.sorted (i - f) (j - f) (Nat.zero_le _) (by omega) (by omega)
  rwa [show f + (i - f) = i by omega, show f + (j - f) = j by omega] at this
end Go.Abs

namespace Go.Abs

/-- What stands ahead of the range is no more than what is in it. -/
def Lws (l : List Int) (a b : Nat) : Prop := 0 < a → ∀ i, a ≤ i → i < b → at0 l (a - 1) ≤ at0 l i

theorem Lws.srt {l m : List Int} {a b : Nat} (h : Lws l a b) (hs : Srt l m a b) (hab : a ≤ b) (hb : b ≤ l.length) : Lws m a b := fun h0 i h1 h2 => by
  obtain ⟨j, j1, j2, j3⟩ := hs.was hab hb h1 h2
  rw [hs.at_out (.inl (by omega)), ← j3]
  exact h h0 j j1 j2

theorem Sorted.snoc {m : List Int} {a i : Nat} (h : Sorted m a i) (hx : at0 m (i - 1) ≤ at0 m i) : Sorted m a (i + 1) := fun p q h1 h2 h3 => by
  by_cases hq : q = i
  · subst hq
    by_cases hp : p = q - 1
    · subst hp; exact hx
    · exact Int.le_trans (h p (q - 1) h1 (by omega) (by omega)) hx
  · exact h p q h1 h2 (by omega)

theorem Sorted.one (m : List Int) (a : Nat) : Sorted m a (a + 1) := fun p q h1 h2 h3 => by omega

theorem Sorted.off {m m' : List Int} {a i c d : Nat} (h : Sorted m a i) (hs : Srt m m' c d) (hi : i ≤ c) : Sorted m' a i := fun p q h1 h2 h3 => by
  rw [hs.at_out (.inl (by omega)), hs.at_out (.inl (by omega))]
  exact h p q h1 h2 h3

theorem Sorted.less {m : List Int} {a i j : Nat} (h : Sorted m a i) (hi : j ≤ i) : Sorted m a j := fun p q h1 h2 h3 => h p q h1 h2 (by omega)

/-- Where the parting stands: the pivot p at a; up to i no more, behind j no less. -/
structure Pt (l m : List Int) (a b : Nat) (p : Int) (i j : Nat) : Prop where
  srt : Srt l m a b
  ai : a < i
  ij : i ≤ j + 1
  jb : j < b
  piv : at0 m a = p
  lo : ∀ k, a < k → k < i → at0 m k ≤ p
  hi : ∀ k, j < k → k < b → p ≤ at0 m k

theorem Pt.start {l : List Int} {a b q : Nat} (h1 : a ≤ q) (h2 : q < b) (hb : b ≤ l.length) : Pt l (swp l a q) a b (at0 l q) (a + 1) (b - 1) := by
  have hat := swp_at l a q a (by omega) (by omega)
  refine ⟨swp_srt l a q a b (by omega) h1 (by omega) h2 hb, by omega, by omega, by omega, ?_, fun k h3 h4 => by omega, fun k h3 h4 => by omega⟩
  rw [hat]
  by_cases h : a = q
  · subst h; simp
  · rw [if_neg h, if_pos rfl]

theorem Pt.up {l m : List Int} {a b i j : Nat} {p : Int} (h : Pt l m a b p i j) (hij : i ≤ j) (hx : at0 m i ≤ p) : Pt l m a b p (i + 1) j :=
  ⟨h.srt, by have := h.ai; omega, by omega, h.jb, h.piv, fun k h1 h2 => by
    by_cases hk : k = i
    · subst hk; exact hx
    · exact h.lo k h1 (by omega), h.hi⟩

theorem Pt.down {l m : List Int} {a b i j : Nat} {p : Int} (h : Pt l m a b p i j) (hij : i ≤ j) (hx : p ≤ at0 m j) : Pt l m a b p i (j - 1) :=
  ⟨h.srt, h.ai, by have := h.ai; omega, by have := h.jb; omega, h.piv, h.lo, fun k h1 h2 => by
    by_cases hk : k = j
    · subst hk; exact hx
    · exact h.hi k (by omega) h2⟩

theorem Pt.swap {l m : List Int} {a b i j : Nat} {p : Int} (h : Pt l m a b p i j) (hb : b ≤ l.length) (hij : i < j) (hi : p ≤ at0 m i) (hj : at0 m j ≤ p) : Pt l (swp m i j) a b p (i + 1) (j - 1) := by
  have hml := h.srt.len
  have hai := h.ai
  have hjb := h.jb
  have hat := fun k => swp_at m i j k (by omega) (by omega)
  refine ⟨h.srt.trans (swp_srt m i j a b (by omega) (by omega) (by omega) (by omega) (by omega)), by omega, by omega, by omega, ?_, fun k h1 h2 => ?_, fun k h1 h2 => ?_⟩
  · rw [hat, if_neg (by omega), if_neg (by omega)]; exact h.piv
  · rw [hat, if_neg (by omega)]
    by_cases hk : k = i
    · rw [if_pos hk]; exact hj
    · rw [if_neg hk]; exact h.lo k h1 (by omega)
  · rw [hat]
    by_cases hk : k = j
    · rw [if_pos hk]; exact hi
    · rw [if_neg hk, if_neg (by omega)]; exact h.hi k (by omega) h2

/-- What the parting of those that equal the pivot leaves. -/
def EqPart (l l' : List Int) (a b : Nat) (p : Int) (mid : Nat) : Prop := Srt l l' a b ∧ a < mid ∧ mid ≤ b ∧ ∀ k, a ≤ k → k < mid → at0 l' k ≤ p

theorem Pt.eq {l m : List Int} {a b i j : Nat} {p : Int} (h : Pt l m a b p i j) (hij : j < i) : EqPart l m a b p i := by
  refine ⟨h.srt, h.ai, ?_, fun k h1 h2 => ?_⟩
  · have := h.jb; have := h.ij; omega
  · by_cases hk : k = a
    · subst hk; exact Int.le_of_eq h.piv
    · exact h.lo k (by omega) h2

/-- What the parting leaves. -/
def Part2 (l l' : List Int) (a b : Nat) (mid : Nat) : Prop := Srt l l' a b ∧ a ≤ mid ∧ mid < b ∧ (∀ k, a ≤ k → k < mid → at0 l' k ≤ at0 l' mid) ∧ ∀ k, mid < k → k < b → at0 l' mid ≤ at0 l' k

theorem Pt.part {l m : List Int} {a b i j : Nat} {p : Int} (h : Pt l m a b p i j) (hb : b ≤ l.length) (hij : j < i) : Part2 l (swp m j a) a b j := by
  have hml := h.srt.len
  have hai := h.ai
  have hjb := h.jb
  have hji := h.ij
  have e : i = j + 1 := by omega
  subst e
  have hat := fun k => swp_at m j a k (by omega) (by omega)
  have hj : at0 (swp m j a) j = p := by
    rw [hat]
    by_cases hk : j = a
    · subst hk; rw [if_pos rfl]; exact h.piv
    · rw [if_neg hk, if_pos rfl]; exact h.piv
  refine ⟨h.srt.trans (swp_srt m j a a b (by omega) (by omega) (by omega) (by omega) (by omega)), by omega, by omega, fun k h1 h2 => ?_, fun k h1 h2 => ?_⟩
  · rw [hj, hat]
    by_cases hk : k = a
    · rw [if_pos hk]; exact h.lo j (by omega) (by omega)
    · rw [if_neg hk, if_neg (by omega)]; exact h.lo k (by omega) (by omega)
  · rw [hj, hat, if_neg (by omega), if_neg (by omega)]
    exact h.hi k h1 h2

/-- Where the sort stands: sorted but for what lies in [c, d). -/
structure PQ (l m : List Int) (a b c d : Nat) : Prop where
  srt : Srt l m a b
  ac : a ≤ c
  cd : c ≤ d
  db : d ≤ b
  out : ∀ i j, a ≤ i → i < j → j < b → (i < c ∨ d ≤ j) → at0 m i ≤ at0 m j

theorem PQ.start (l : List Int) {a b : Nat} (h : a ≤ b) : PQ l l a b a b := ⟨.refl _ _ _, Nat.le_refl _, h, Nat.le_refl _, fun i j h1 h2 h3 h4 => by omega⟩

theorem PQ.mix {l m m' : List Int} {a b c d : Nat} (h : PQ l m a b c d) (hb : b ≤ l.length) (hs : Srt m m' c d) : PQ l m' a b c d := by
  have hml := h.srt.len
  have := h.ac
  have := h.cd
  have := h.db
  refine ⟨h.srt.trans (hs.widen h.ac h.db), h.ac, h.cd, h.db, fun i j h1 h2 h3 h4 => ?_⟩
  by_cases hi : c ≤ i ∧ i < d
  · obtain ⟨i', i1, i2, i3⟩ := hs.was h.cd (by omega) hi.1 hi.2
    rw [← i3, hs.at_out (.inr (by omega))]
    exact h.out i' j (by omega) (by omega) h3 (.inr (by omega))
  · rw [hs.at_out (i := i) (by omega)]
    by_cases hj : c ≤ j ∧ j < d
    · obtain ⟨j', j1, j2, j3⟩ := hs.was h.cd (by omega) hj.1 hj.2
      rw [← j3]
      exact h.out i j' h1 (by omega) (by omega) (.inl (by omega))
    · rw [hs.at_out (i := j) (by omega)]
      exact h.out i j h1 h2 h3 h4

theorem PQ.done {l m : List Int} {a b c d : Nat} (h : PQ l m a b c d) (hs : Sorted m c d) : Sorted m a b := fun i j h1 h2 h3 => by
  by_cases hij : i < c ∨ d ≤ j
  · exact h.out i j h1 h2 h3 hij
  · exact hs i j (by omega) h2 (by omega)

theorem PQ.low {l m : List Int} {a b c d : Nat} (h : PQ l m a b c d) (hl : Lws l a b) (hb : b ≤ l.length) : Lws m c d := fun h0 i h1 h2 => by
  have := h.ac
  have := h.cd
  have := h.db
  by_cases hac : a = c
  · subst hac
    exact hl.srt h.srt (by omega) hb h0 i h1 (by omega)
  · exact h.out (c - 1) i (by omega) (by omega) (by omega) (.inl (by omega))

theorem PQ.eq {l m m' : List Int} {a b c d mid : Nat} {p : Int} (h : PQ l m a b c d) (hb : b ≤ l.length) (hp : ∀ i, c ≤ i → i < d → p ≤ at0 m i) (he : EqPart m m' c d p mid) : PQ l m' a b mid d := by
  obtain ⟨hs, e1, e2, e3⟩ := he
  have hml := h.srt.len
  have := h.ac
  have := h.cd
  have := h.db
  have h' := h.mix hb hs
  refine ⟨h'.srt, by omega, e2, h.db, fun i j h1 h2 h3 h4 => ?_⟩
  by_cases hi : i < c ∨ d ≤ j
  · exact h'.out i j h1 h2 h3 hi
  · obtain ⟨j', j1, j2, j3⟩ := hs.was h.cd (by omega) (i := j) (by omega) (by omega)
    have h5 := hp j' j1 j2
    rw [j3] at h5
    exact Int.le_trans (e3 i (by omega) (by omega)) h5

theorem PQ.left {l m m' m'' : List Int} {a b c d mid : Nat} (h : PQ l m a b c d) (hb : b ≤ l.length) (he : Part2 m m' c d mid) (hs2 : Srt m' m'' c mid) (hso : Sorted m'' c mid) : PQ l m'' a b (mid + 1) d := by
  obtain ⟨hs, e1, e2, e3, e4⟩ := he
  have hml := h.srt.len
  have hml2 := hs.len
  have := h.ac
  have := h.cd
  have := h.db
  have h' := (h.mix hb hs).mix hb (hs2.widen (Nat.le_refl _) (by omega))
  refine ⟨h'.srt, by omega, by omega, h.db, fun i j h1 h2 h3 h4 => ?_⟩
  by_cases hi : i < c ∨ d ≤ j
  · exact h'.out i j h1 h2 h3 hi
  · by_cases hj : j < mid
    · exact hso i j (by omega) h2 hj
    · have hx : at0 m'' i ≤ at0 m'' mid := by
        by_cases him : i = mid
        · subst him; exact Int.le_refl _
        · obtain ⟨i', i1, i2, i3⟩ := hs2.was e1 (by omega) (i := i) (by omega) (by omega)
          rw [← i3, hs2.at_out (.inr (Nat.le_refl _))]
          exact e3 i' i1 i2
      by_cases hjm : j = mid
      · subst hjm; exact hx
      · refine Int.le_trans hx ?_
        rw [hs2.at_out (.inr (Nat.le_refl _)), hs2.at_out (i := j) (.inr (by omega))]
        exact e4 j (by omega) (by omega)

theorem PQ.right {l m m' m'' : List Int} {a b c d mid : Nat} (h : PQ l m a b c d) (hb : b ≤ l.length) (he : Part2 m m' c d mid) (hs2 : Srt m' m'' (mid + 1) d) (hso : Sorted m'' (mid + 1) d) : PQ l m'' a b c mid := by
  obtain ⟨hs, e1, e2, e3, e4⟩ := he
  have hml := h.srt.len
  have hml2 := hs.len
  have := h.ac
  have := h.cd
  have := h.db
  have h' := (h.mix hb hs).mix hb (hs2.widen (by omega) (Nat.le_refl _))
  refine ⟨h'.srt, h.ac, e1, by omega, fun i j h1 h2 h3 h4 => ?_⟩
  by_cases hi : i < c ∨ d ≤ j
  · exact h'.out i j h1 h2 h3 hi
  · by_cases hj : mid < i
    · exact hso i j (by omega) h2 (by omega)
    · have hx : at0 m'' mid ≤ at0 m'' j := by
        by_cases hjm : j = mid
        · subst hjm; exact Int.le_refl _
        · obtain ⟨j', j1, j2, j3⟩ := hs2.was (by omega) (by omega) (i := j) (by omega) (by omega)
          rw [← j3, hs2.at_out (.inl (by omega))]
          exact e4 j' (by omega) (by omega)
      by_cases him : i = mid
      · subst him; exact hx
      · refine Int.le_trans ?_ hx
        rw [hs2.at_out (i := mid) (.inl (by omega)), hs2.at_out (i := i) (.inl (by omega))]
        exact e3 i (by omega) (by omega)

theorem Part2.low_left {m m' : List Int} {c d mid : Nat} (he : Part2 m m' c d mid) (h : Lws m c d) (hd : d ≤ m.length) (hcd : c ≤ d) : Lws m' c mid := fun h0 i h1 h2 =>
  (h.srt he.1 hcd hd) h0 i h1 (by have := he.2.2.1; omega)

theorem Part2.low_right {m m' : List Int} {c d mid : Nat} (he : Part2 m m' c d mid) : Lws m' (mid + 1) d := fun h0 i h1 h2 => he.2.2.2.2 i (by omega) h2

/-- The pivot is no more than any, where it is no more than what stands ahead of the range. -/
theorem Lws.piv {m : List Int} {c d : Nat} {q : Nat} (h : Lws m c d) (h0 : 0 < c) (hx : at0 m q ≤ at0 m (c - 1)) : ∀ i, c ≤ i → i < d → at0 m q ≤ at0 m i := fun i h1 h2 => Int.le_trans hx (h h0 i h1 h2)
end Go.Abs

namespace Go.Abs
open Go.Proofs Go.Proofs.YtpkngagppfoccaaGreatDoor
set_option maxRecDepth 8000

def SrtQ (l : List Int) (a b : Nat) : Heap → TV → Prop := fun H r => r = .tup [] ∧ ∃ l', H = hp16 l' ∧ Srt l l' a b

theorem rev_spec (l : List Int) (a b : Nat) (ha : a < b) (hbl : b ≤ l.length) : Spec X 134 (hp16 l) [.c (.own 16), .int a, .int b] (SrtQ l a b) := by
  refine spec_go X_ok Tryz.f134 (by kernel_rfl) (by kernel_rfl) (by kernel_rfl) fun hb hH => ⟨rfl, ?_⟩
  have hmax : l.length ≤ maxN := hH 16 .int l rfl
  have hmx : l.length ≤ 140737488355328 := hmax
  show ∃ n, _
  refine ⟨0, ALoop.inv (ι := {p : List Int × Nat // Srt l p.1 a b ∧ a ≤ p.2 ∧ 2 * p.2 ≤ a + b}) (fun p => ⟨[(0, .c (.own 16)), (6, .int p.1.2), (7, .int (a + b - 1 - p.1.2 : Nat))], [(16, .data .int p.1.1)], 64⟩) (fun p => b - p.1.2) ⟨(l, a), Srt.refl _ _ _, Nat.le_refl _, by show 2 * a ≤ a + b; omega⟩ ?_ ?_⟩
  · refine ⟨[(16, 16)], .cons _ _ _ (.c _ _ (.own _ _ rfl)) (.cons _ _ _ .same (.cons _ _ _ (.int_eq ?_) .nil)), .old 16 16 _ _ _ rfl rfl (.data_eq rfl) .nil, rfl⟩
    show IntKind.i64.wrap ((b : Int) - 1) = ((a + b - 1 - a : Nat) : Int)
    exact wrapN (by omega) (by omega)
  · rintro ⟨⟨m, i⟩, hs, hai, hib⟩
    have hml : m.length = l.length := hs.len
    have hai : a ≤ i := hai
    have hib : 2 * i ≤ a + b := hib
    show ABr (decide ((i : Int) < ((a + b - 1 - i : Nat) : Int))) _ _
    refine ⟨fun h => ?_, fun h => ?_⟩
    · have hlt : i < a + b - 1 - i := by simp at h; omega
      have hj : ∃ j, a + b - 1 - i = j ∧ a ≤ j ∧ j < b ∧ i < j := ⟨a + b - 1 - i, rfl, by omega, by omega, hlt⟩
      obtain ⟨j, ej, hj1, hj2, hj3⟩ := hj
      rw [ej]
      have hip := wrapP (i := i) (by omega)
      show AOb ((0 : Int) ≤ (j : Int) ∧ (j : Int) < (m.length : Int)) _
      refine ⟨by omega, ?_⟩
      show AOb ((j : Int).toNat < m.length) _
      refine ⟨by omega, ?_⟩
      show AOb ((0 : Int) ≤ (i : Int) ∧ (i : Int) < (m.length : Int)) _
      refine ⟨by omega, ?_⟩
      show AOb ((i : Int).toNat < m.length) _
      refine ⟨by omega, ?_⟩
      show AOb ((0 : Int) ≤ (i : Int) ∧ (i : Int) < (m.length : Int)) _
      refine ⟨by omega, ?_⟩
      show AOb ((i : Int).toNat < m.length) _
      refine ⟨by omega, ?_⟩
      show AOb ((0 : Int) ≤ (j : Int) ∧ (j : Int) < ((m.set (i : Int).toNat (at0 m (j : Int).toNat)).length : Int)) _
      refine ⟨by rw [List.length_set]; omega, ?_⟩
      show AOb ((j : Int).toNat < (m.set (i : Int).toNat (at0 m (j : Int).toNat)).length) _
      refine ⟨by rw [List.length_set]; omega, ?_⟩
      show ARound _ _ _ _
      refine ⟨⟨(swp m i j, i + 1), hs.trans (swp_srt m i j a b hai (by omega) (by omega) hj2 (by omega)), by show a ≤ i + 1; omega, by show 2 * (i + 1) ≤ a + b; omega⟩, by show b - (i + 1) < b - i; omega, [(16, 16)], .cons _ _ _ (.c _ _ (.own _ _ rfl)) (.cons _ _ _ (.int_eq hip) (.cons _ _ _ (.int_eq ?_) .nil)), .old 16 16 _ _ _ rfl rfl (.data_eq rfl) .nil, rfl⟩
      show IntKind.i64.wrap ((j : Int) - 1) = ((a + b - 1 - (i + 1) : Nat) : Int)
      exact wrapN (by omega) (by omega)
    · show ARet _ _ _
      exact ⟨[(16, 16)], hp16 m, [], .nil, .old 16 16 _ _ _ rfl rfl (.data_eq rfl) .nil, rfl, rfl, m, rfl, hs⟩
end Go.Abs
