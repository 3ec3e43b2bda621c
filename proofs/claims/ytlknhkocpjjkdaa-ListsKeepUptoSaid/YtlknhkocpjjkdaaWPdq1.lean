/- Walks: the library's sort: the choice of a pivot; patterns are broken. -/
import Derived.Test.YtlknhkocpjjkdaaWSort
set_option linter.all false
set_option linter.unusedVariables false
set_option linter.unusedSimpArgs false
namespace Go.Abs
open Go.Proofs Go.Proofs.Ytlknhkocpjjkdaa
set_option maxRecDepth 8000

abbrev hps (l : List Int) (s : Int) : Heap := [(16, .data .int l), (17, .vars [.d (.int s)])]

theorem order2_spec (l : List Int) (s : Int) (a b : Nat) (ha : a < l.length) (hb : b < l.length) : Spec X 72 (hps l s) [.c (.own 16), .int a, .int b, .c (.ptr 17 0 0)]
    (fun H r => ∃ (s' : Int) (x y : Nat), H = hps l s' ∧ r = .tup [.int x, .int y] ∧ ((x = a ∧ y = b) ∨ (x = b ∧ y = a))) := by
  refine spec_go X_ok Try.f72 (by kernel_rfl) (by kernel_rfl) (by kernel_rfl) fun hbd hH => ⟨rfl, ?_⟩
  show AOb ((0 : Int) ≤ (b : Int) ∧ (b : Int) < (l.length : Int)) _
  refine ⟨by omega, ?_⟩
  show AOb ((b : Int).toNat < l.length) _
  refine ⟨by omega, ?_⟩
  show AOb ((0 : Int) ≤ (a : Int) ∧ (a : Int) < (l.length : Int)) _
  refine ⟨by omega, ?_⟩
  show AOb ((a : Int).toNat < l.length) _
  refine ⟨by omega, ?_⟩
  show ADCall _ _ _ _ _ _
  refine .mk [] _ (Less_spec (at0 l b) (at0 l a)) rfl ?_
  show ABr _ _ _
  refine ⟨fun _ => ?_, fun _ => ?_⟩
  · show ARet _ _ _
    exact ⟨[(16, 16), (17, 17)], hps l (IntKind.i64.wrap (s + 1)), [.int b, .int a], .cons _ _ _ _ .same (.cons _ _ _ _ .same .nil), .old 16 16 _ _ _ rfl rfl (.data_eq rfl) (.old 17 17 _ _ _ rfl rfl (.vars _ _ (LeL_refl rfl)) .nil), rfl, _, b, a, rfl, rfl, .inr ⟨rfl, rfl⟩⟩
  · show ARet _ _ _
    exact ⟨[(16, 16), (17, 17)], hps l s, [.int a, .int b], .cons _ _ _ _ .same (.cons _ _ _ _ .same .nil), .old 16 16 _ _ _ rfl rfl (.data_eq rfl) (.old 17 17 _ _ _ rfl rfl (.vars _ _ (LeL_refl rfl)) .nil), rfl, _, a, b, rfl, rfl, .inl ⟨rfl, rfl⟩⟩

theorem median_spec (l : List Int) (s : Int) (a b c : Nat) (ha : a < l.length) (hb : b < l.length) (hc : c < l.length) : Spec X 70 (hps l s) [.c (.own 16), .int a, .int b, .int c, .c (.ptr 17 0 0)]
    (fun H r => ∃ (s' : Int) (x : Nat), H = hps l s' ∧ r = .int x ∧ (x = a ∨ x = b ∨ x = c)) := by
  refine spec_go X_ok Try.f70 (by kernel_rfl) (by kernel_rfl) (by kernel_rfl) fun hbd hH => ⟨rfl, ?_⟩
  show ACall _ _ _ _ _ _
  refine .hand [(16, 16), (17, 17)] (hps l s) [.c (.own 16), .int a, .int b, .c (.ptr 17 0 0)] _ (.cons _ _ _ _ (.c _ _ (.own _ _ rfl)) (.cons _ _ _ _ .same (.cons _ _ _ _ .same (.cons _ _ _ _ (.c _ _ (.ptr _ _ _ _ rfl)) .nil)))) (.old 16 16 _ _ _ rfl rfl (.data_eq rfl) (.old 17 17 _ _ _ rfl rfl (.vars _ _ (LeL_refl rfl)) .nil)) rfl (order2_spec l s a b ha hb) ?_
  rintro H r ⟨s1, a1, b1, rfl, rfl, h1⟩ _ _
  refine ⟨rfl, .inr ⟨rfl, rfl⟩, ?_⟩
  have hb1 : b1 < l.length := by rcases h1 with ⟨_, e⟩ | ⟨_, e⟩ <;> omega
  have ha1 : a1 < l.length := by rcases h1 with ⟨e, _⟩ | ⟨e, _⟩ <;> omega
  show ACall _ _ _ _ _ _
  refine .hand [(16, 16), (17, 17)] (hps l s1) [.c (.own 16), .int b1, .int c, .c (.ptr 17 0 0)] _ (.cons _ _ _ _ (.c _ _ (.own _ _ rfl)) (.cons _ _ _ _ .same (.cons _ _ _ _ .same (.cons _ _ _ _ (.c _ _ (.ptr _ _ _ _ rfl)) .nil)))) (.old 16 16 _ _ _ rfl rfl (.data_eq rfl) (.old 17 17 _ _ _ rfl rfl (.vars _ _ (LeL_refl rfl)) .nil)) rfl (order2_spec l s1 b1 c hb1 hc) ?_
  rintro H r ⟨s2, b2, c2, rfl, rfl, h2⟩ _ _
  refine ⟨rfl, .inr ⟨rfl, rfl⟩, ?_⟩
  have hb2 : b2 < l.length := by rcases h2 with ⟨e, _⟩ | ⟨e, _⟩ <;> omega
  show ACall _ _ _ _ _ _
  refine .hand [(16, 16), (17, 17)] (hps l s2) [.c (.own 16), .int a1, .int b2, .c (.ptr 17 0 0)] _ (.cons _ _ _ _ (.c _ _ (.own _ _ rfl)) (.cons _ _ _ _ .same (.cons _ _ _ _ .same (.cons _ _ _ _ (.c _ _ (.ptr _ _ _ _ rfl)) .nil)))) (.old 16 16 _ _ _ rfl rfl (.data_eq rfl) (.old 17 17 _ _ _ rfl rfl (.vars _ _ (LeL_refl rfl)) .nil)) rfl (order2_spec l s2 a1 b2 ha1 hb2) ?_
  rintro H r ⟨s3, a3, b3, rfl, rfl, h3⟩ _ _
  refine ⟨rfl, .inr ⟨rfl, rfl⟩, ?_⟩
  show ARet _ _ _
  refine ⟨[(16, 16), (17, 17)], hps l s3, [.int b3], .cons _ _ _ _ .same .nil, .old 16 16 _ _ _ rfl rfl (.data_eq rfl) (.old 17 17 _ _ _ rfl rfl (.vars _ _ (LeL_refl rfl)) .nil), rfl, _, b3, rfl, rfl, ?_⟩
  omega

theorem medianAdj_spec (l : List Int) (s : Int) (a : Nat) (h0 : 0 < a) (ha : a + 1 < l.length) (hm : l.length ≤ maxN) : Spec X 69 (hps l s) [.c (.own 16), .int a, .c (.ptr 17 0 0)]
    (fun H r => ∃ (s' : Int) (x : Nat), H = hps l s' ∧ r = .int x ∧ (a - 1 ≤ x ∧ x ≤ a + 1)) := by
  refine spec_go X_ok Try.f69 (by kernel_rfl) (by kernel_rfl) (by kernel_rfl) fun hbd hH => ⟨rfl, ?_⟩
  have w1 : IntKind.i64.wrap ((a : Int) - 1) = ((a - 1 : Nat) : Int) := wrapM (by omega) h0
  have w2 : IntKind.i64.wrap ((a : Int) + 1) = ((a + 1 : Nat) : Int) := wrapP (by omega)
  show ACall _ _ _ _ _ _
  refine .hand [(16, 16), (17, 17)] (hps l s) [.c (.own 16), .int (a - 1 : Nat), .int a, .int (a + 1 : Nat), .c (.ptr 17 0 0)] _ (.cons _ _ _ _ (.c _ _ (.own _ _ rfl)) (.cons _ _ _ _ (.int_eq w1) (.cons _ _ _ _ .same (.cons _ _ _ _ (.int_eq w2) (.cons _ _ _ _ (.c _ _ (.ptr _ _ _ _ rfl)) .nil))))) (.old 16 16 _ _ _ rfl rfl (.data_eq rfl) (.old 17 17 _ _ _ rfl rfl (.vars _ _ (LeL_refl rfl)) .nil)) rfl (median_spec l s (a - 1) a (a + 1) (by omega) (by omega) ha) ?_
  rintro H r ⟨s1, x, rfl, rfl, h1⟩ _ _
  refine ⟨rfl, .inr ⟨rfl, rfl⟩, ?_⟩
  show ARet _ _ _
  refine ⟨[(16, 16), (17, 17)], hps l s1, [.int x], .cons _ _ _ _ .same .nil, .old 16 16 _ _ _ rfl rfl (.data_eq rfl) (.old 17 17 _ _ _ rfl rfl (.vars _ _ (LeL_refl rfl)) .nil), rfl, _, x, rfl, rfl, ?_⟩
  omega
end Go.Abs
