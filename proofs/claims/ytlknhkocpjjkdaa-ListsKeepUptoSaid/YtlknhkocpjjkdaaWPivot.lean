/- Walks: the library's sort: the choice of a pivot. -/
import Derived.Test.YtlknhkocpjjkdaaWPdq1
set_option linter.all false
set_option linter.unusedVariables false
set_option linter.unusedSimpArgs false
namespace Go.Abs
open Go.Proofs Go.Proofs.Ytlknhkocpjjkdaa
set_option maxRecDepth 8000

theorem wrapN {z : Int} {n : Nat} (h : z = (n : Int)) (hn : n ≤ 4503599627370496) : IntKind.i64.wrap z = ((n : Nat) : Int) := by
  rw [h, wrap64 (by omega) (by omega)]

theorem tdivN (n k : Nat) : ((n : Int)).tdiv (k : Int) = ((n / k : Nat) : Int) := by
  rw [Int.ofNat_tdiv]

def PivQ (l : List Int) (a b : Nat) : Heap → TV → Prop := fun H r => ∃ (p : Nat) (hint : Int), H = hp16 l ∧ r = .tup [.int p, .int hint] ∧ a ≤ p ∧ p < b

set_option maxHeartbeats 4000000 in
theorem choosePivot_spec (l : List Int) (a b : Nat) (h12 : a + 12 < b) (hb : b ≤ l.length) : Spec X 58 (hp16 l) [.c (.own 16), .int a, .int b] (PivQ l a b) := by
  refine spec_go X_ok Try.f58 (by kernel_rfl) (by kernel_rfl) (by kernel_rfl) fun hbd hH => ⟨rfl, ?_⟩
  have hmax : l.length ≤ maxN := hH 16 .int l rfl
  have hmx : l.length ≤ 140737488355328 := hmax
  have hL : IntKind.i64.wrap ((b : Int) - (a : Int)) = ((b - a : Nat) : Int) := wrapN (by omega) (by omega)
  have hD : ((IntKind.i64.wrap ((b : Int) - (a : Int))).tdiv 4) = (((b - a) / 4 : Nat) : Int) := by rw [hL]; exact tdivN _ 4
  have hQ : IntKind.i64.wrap ((IntKind.i64.wrap ((b : Int) - (a : Int))).tdiv 4) = (((b - a) / 4 : Nat) : Int) := wrapN hD (by omega)
  have hM1 : IntKind.i64.wrap (IntKind.i64.wrap ((IntKind.i64.wrap ((b : Int) - (a : Int))).tdiv 4) * 1) = (((b - a) / 4 * 1 : Nat) : Int) := wrapN (by rw [hQ]; omega) (by omega)
  have hA1 : IntKind.i64.wrap ((a : Int) + IntKind.i64.wrap (IntKind.i64.wrap ((IntKind.i64.wrap ((b : Int) - (a : Int))).tdiv 4) * 1)) = ((a + (b - a) / 4 * 1 : Nat) : Int) := wrapN (by rw [hM1]; omega) (by omega)
  have hM2 : IntKind.i64.wrap (IntKind.i64.wrap ((IntKind.i64.wrap ((b : Int) - (a : Int))).tdiv 4) * 2) = (((b - a) / 4 * 2 : Nat) : Int) := wrapN (by rw [hQ]; omega) (by omega)
  have hA2 : IntKind.i64.wrap ((a : Int) + IntKind.i64.wrap (IntKind.i64.wrap ((IntKind.i64.wrap ((b : Int) - (a : Int))).tdiv 4) * 2)) = ((a + (b - a) / 4 * 2 : Nat) : Int) := wrapN (by rw [hM2]; omega) (by omega)
  have hM3 : IntKind.i64.wrap (IntKind.i64.wrap ((IntKind.i64.wrap ((b : Int) - (a : Int))).tdiv 4) * 3) = (((b - a) / 4 * 3 : Nat) : Int) := wrapN (by rw [hQ]; omega) (by omega)
  have hA3 : IntKind.i64.wrap ((a : Int) + IntKind.i64.wrap (IntKind.i64.wrap ((IntKind.i64.wrap ((b : Int) - (a : Int))).tdiv 4) * 3)) = ((a + (b - a) / 4 * 3 : Nat) : Int) := wrapN (by rw [hM3]; omega) (by omega)
  show AOb ((4 : Int) ≠ 0) _
  refine ⟨by decide, ?_⟩
  show AOb ((4 : Int) ≠ 0) _
  refine ⟨by decide, ?_⟩
  show AOb ((4 : Int) ≠ 0) _
  refine ⟨by decide, ?_⟩
  show ABr (decide (IntKind.i64.wrap ((b : Int) - (a : Int)) ≥ 8)) _ _
  refine ⟨fun _ => ?_, fun h => absurd h (by rw [hL]; simp; omega)⟩
  show ABr (decide (IntKind.i64.wrap ((b : Int) - (a : Int)) ≥ 50)) _ _
  refine ⟨fun h50 => ?_, fun h50 => ?_⟩
  · have h50 : 50 ≤ b - a := by rw [hL] at h50; simp at h50; omega
    show ACall _ _ _ _ _ _
    refine .hand [(16, 16), (224, 17)] (hps l 0) [.c (.own 16), .int (a + (b - a) / 4 * 1 : Nat), .c (.ptr 17 0 0)] _ (.cons _ _ _ _ (.c _ _ (.own _ _ rfl)) (.cons _ _ _ _ (.int_eq hA1)  (.cons _ _ _ _ (.c _ _ (.ptr _ _ _ _ rfl)) .nil))) (.old 16 16 _ _ _ rfl rfl (.data_eq rfl) (.old 17 224 _ _ _ rfl rfl (.vars _ _ (LeL_refl rfl)) .nil)) rfl (medianAdj_spec l 0 (a + (b - a) / 4 * 1) (by omega) (by omega) hmax) ?_
    rintro H r ⟨s1, x1, rfl, rfl, q1⟩ _ _
    refine ⟨rfl, .inr ⟨rfl, rfl⟩, ?_⟩
    show ACall _ _ _ _ _ _
    refine .hand [(16, 16), (224, 17)] (hps l s1) [.c (.own 16), .int (a + (b - a) / 4 * 2 : Nat), .c (.ptr 17 0 0)] _ (.cons _ _ _ _ (.c _ _ (.own _ _ rfl)) (.cons _ _ _ _ (.int_eq hA2)  (.cons _ _ _ _ (.c _ _ (.ptr _ _ _ _ rfl)) .nil))) (.old 16 16 _ _ _ rfl rfl (.data_eq rfl) (.old 17 224 _ _ _ rfl rfl (.vars _ _ (LeL_refl rfl)) .nil)) rfl (medianAdj_spec l s1 (a + (b - a) / 4 * 2) (by omega) (by omega) hmax) ?_
    rintro H r ⟨s2, x2, rfl, rfl, q2⟩ _ _
    refine ⟨rfl, .inr ⟨rfl, rfl⟩, ?_⟩
    show ACall _ _ _ _ _ _
    refine .hand [(16, 16), (224, 17)] (hps l s2) [.c (.own 16), .int (a + (b - a) / 4 * 3 : Nat), .c (.ptr 17 0 0)] _ (.cons _ _ _ _ (.c _ _ (.own _ _ rfl)) (.cons _ _ _ _ (.int_eq hA3)  (.cons _ _ _ _ (.c _ _ (.ptr _ _ _ _ rfl)) .nil))) (.old 16 16 _ _ _ rfl rfl (.data_eq rfl) (.old 17 224 _ _ _ rfl rfl (.vars _ _ (LeL_refl rfl)) .nil)) rfl (medianAdj_spec l s2 (a + (b - a) / 4 * 3) (by omega) (by omega) hmax) ?_
    rintro H r ⟨s3, x3, rfl, rfl, q3⟩ _ _
    refine ⟨rfl, .inr ⟨rfl, rfl⟩, ?_⟩
    show ACall _ _ _ _ _ _
    refine .hand [(16, 16), (224, 17)] (hps l s3) [.c (.own 16), .int x1, .int x2, .int x3, .c (.ptr 17 0 0)] _ (.cons _ _ _ _ (.c _ _ (.own _ _ rfl)) (.cons _ _ _ _ .same (.cons _ _ _ _ .same (.cons _ _ _ _ .same  (.cons _ _ _ _ (.c _ _ (.ptr _ _ _ _ rfl)) .nil))))) (.old 16 16 _ _ _ rfl rfl (.data_eq rfl) (.old 17 224 _ _ _ rfl rfl (.vars _ _ (LeL_refl rfl)) .nil)) rfl (median_spec l s3 x1 x2 x3 (by omega) (by omega) (by omega)) ?_
    rintro H r ⟨s4, x4, rfl, rfl, q4⟩ _ _
    refine ⟨rfl, .inr ⟨rfl, rfl⟩, ?_⟩
    show ABr (decide (s4 = 0)) _ _
    refine ⟨fun _ => ?_, fun _ => ?_⟩
    · show ARet _ _ _
      refine ⟨[(16, 16)], hp16 l, [.int x4, .int 1], .cons _ _ _ _ .same (.cons _ _ _ _ .same .nil), .old 16 16 _ _ _ rfl rfl (.data_eq rfl) .nil, rfl, x4, 1, rfl, rfl, ?_, ?_⟩ <;> omega
    · show ABr (decide (s4 = 12)) _ _
      refine ⟨fun _ => ?_, fun _ => ?_⟩
      · show ARet _ _ _
        refine ⟨[(16, 16)], hp16 l, [.int x4, .int 2], .cons _ _ _ _ .same (.cons _ _ _ _ .same .nil), .old 16 16 _ _ _ rfl rfl (.data_eq rfl) .nil, rfl, x4, 2, rfl, rfl, ?_, ?_⟩ <;> omega
      · show ARet _ _ _
        refine ⟨[(16, 16)], hp16 l, [.int x4, .int 0], .cons _ _ _ _ .same (.cons _ _ _ _ .same .nil), .old 16 16 _ _ _ rfl rfl (.data_eq rfl) .nil, rfl, x4, 0, rfl, rfl, ?_, ?_⟩ <;> omega
  · have h50 : b - a < 50 := by rw [hL] at h50; simp at h50; omega
    show ACall _ _ _ _ _ _
    refine .hand [(16, 16), (224, 17)] (hps l 0) [.c (.own 16), .int (a + (b - a) / 4 * 1 : Nat), .int (a + (b - a) / 4 * 2 : Nat), .int (a + (b - a) / 4 * 3 : Nat), .c (.ptr 17 0 0)] _ (.cons _ _ _ _ (.c _ _ (.own _ _ rfl)) (.cons _ _ _ _ (.int_eq hA1) (.cons _ _ _ _ (.int_eq hA2) (.cons _ _ _ _ (.int_eq hA3)  (.cons _ _ _ _ (.c _ _ (.ptr _ _ _ _ rfl)) .nil))))) (.old 16 16 _ _ _ rfl rfl (.data_eq rfl) (.old 17 224 _ _ _ rfl rfl (.vars _ _ (LeL_refl rfl)) .nil)) rfl (median_spec l 0 (a + (b - a) / 4 * 1) (a + (b - a) / 4 * 2) (a + (b - a) / 4 * 3) (by omega) (by omega) (by omega)) ?_
    rintro H r ⟨s4, x4, rfl, rfl, q4⟩ _ _
    refine ⟨rfl, .inr ⟨rfl, rfl⟩, ?_⟩
    show ABr (decide (s4 = 0)) _ _
    refine ⟨fun _ => ?_, fun _ => ?_⟩
    · show ARet _ _ _
      refine ⟨[(16, 16)], hp16 l, [.int x4, .int 1], .cons _ _ _ _ .same (.cons _ _ _ _ .same .nil), .old 16 16 _ _ _ rfl rfl (.data_eq rfl) .nil, rfl, x4, 1, rfl, rfl, ?_, ?_⟩ <;> omega
    · show ABr (decide (s4 = 12)) _ _
      refine ⟨fun _ => ?_, fun _ => ?_⟩
      · show ARet _ _ _
        refine ⟨[(16, 16)], hp16 l, [.int x4, .int 2], .cons _ _ _ _ .same (.cons _ _ _ _ .same .nil), .old 16 16 _ _ _ rfl rfl (.data_eq rfl) .nil, rfl, x4, 2, rfl, rfl, ?_, ?_⟩ <;> omega
      · show ARet _ _ _
        refine ⟨[(16, 16)], hp16 l, [.int x4, .int 0], .cons _ _ _ _ .same (.cons _ _ _ _ .same .nil), .old 16 16 _ _ _ rfl rfl (.data_eq rfl) .nil, rfl, x4, 0, rfl, rfl, ?_, ?_⟩ <;> omega
end Go.Abs
