/- Walks: the library's sort: a range is turned around. -/
import Derived.Test.YtlknhkocpjjkdaaWHeapLaw
import Derived.Test.YtlknhkocpjjkdaaWPivot
set_option linter.all false
set_option linter.unusedVariables false
set_option linter.unusedSimpArgs false
namespace Go.Abs
open Go.Proofs Go.Proofs.Ytlknhkocpjjkdaa
set_option maxRecDepth 8000

def SrtQ (l : List Int) (a b : Nat) : Heap → TV → Prop := fun H r => r = .tup [] ∧ ∃ l', H = hp16 l' ∧ Srt l l' a b

theorem rev_spec (l : List Int) (a b : Nat) (ha : a < b) (hbl : b ≤ l.length) : Spec X 59 (hp16 l) [.c (.own 16), .int a, .int b] (SrtQ l a b) := by
  refine spec_go X_ok Try.f59 (by kernel_rfl) (by kernel_rfl) (by kernel_rfl) fun hb hH => ⟨rfl, ?_⟩
  have hmax : l.length ≤ maxN := hH 16 .int l rfl
  have hmx : l.length ≤ 140737488355328 := hmax
  show ∃ n, _
  refine ⟨0, ALoop.inv (ι := {p : List Int × Nat // Srt l p.1 a b ∧ a ≤ p.2 ∧ 2 * p.2 ≤ a + b}) (fun p => ⟨[(0, .c (.own 16)), (6, .int p.1.2), (7, .int (a + b - 1 - p.1.2 : Nat))], [(16, .data .int p.1.1)], 64⟩) (fun p => b - p.1.2) ⟨(l, a), Srt.refl _ _ _, Nat.le_refl _, by show 2 * a ≤ a + b; omega⟩ ?_ ?_⟩
  · refine ⟨[(16, 16)], .cons _ _ _ (.c _ _ (.own _ _ rfl)) (.cons _ _ _ .same (.cons _ _ _ (.int_eq ?_) .nil)), .old 16 16 _ _ _ rfl rfl (.data_eq rfl) .nil, rfl⟩
    show IntKind.i64.wrap ((b : Int) - 1) = ((a + b - 1 - a : Nat) : Int)
    exact wrapN (by omega) (by omega)
  · rintro ⟨⟨m, i⟩, hs, hai, hib⟩
    have hml : m.length = l.length := hs.len
    have hai : a ≤ i := hai
    have hib : 2 * i ≤ a + b := hib
    show ABr (decide ((i : Int) < ((a + b - 1 - i : Nat) : Int))) _ _
    refine ⟨fun h => ?_, fun h => ?_⟩
    · have hlt : i < a + b - 1 - i := by simp at h; omega
      have hj : ∃ j, a + b - 1 - i = j ∧ a ≤ j ∧ j < b ∧ i < j := ⟨a + b - 1 - i, rfl, by omega, by omega, hlt⟩
      obtain ⟨j, ej, hj1, hj2, hj3⟩ := hj
      rw [ej]
      have hip := wrapP (i := i) (by omega)
      show AOb ((0 : Int) ≤ (j : Int) ∧ (j : Int) < (m.length : Int)) _
      refine ⟨by omega, ?_⟩
      show AOb ((j : Int).toNat < m.length) _
      refine ⟨by omega, ?_⟩
      show AOb ((0 : Int) ≤ (i : Int) ∧ (i : Int) < (m.length : Int)) _
      refine ⟨by omega, ?_⟩
      show AOb ((i : Int).toNat < m.length) _
      refine ⟨by omega, ?_⟩
      show AOb ((0 : Int) ≤ (i : Int) ∧ (i : Int) < (m.length : Int)) _
      refine ⟨by omega, ?_⟩
      show AOb ((i : Int).toNat < m.length) _
      refine ⟨by omega, ?_⟩
      show AOb ((0 : Int) ≤ (j : Int) ∧ (j : Int) < ((m.set (i : Int).toNat (at0 m (j : Int).toNat)).length : Int)) _
      refine ⟨by rw [List.length_set]; omega, ?_⟩
      show AOb ((j : Int).toNat < (m.set (i : Int).toNat (at0 m (j : Int).toNat)).length) _
      refine ⟨by rw [List.length_set]; omega, ?_⟩
      show ARound _ _ _ _
      refine ⟨⟨(swp m i j, i + 1), hs.trans (swp_srt m i j a b hai (by omega) (by omega) hj2 (by omega)), by show a ≤ i + 1; omega, by show 2 * (i + 1) ≤ a + b; omega⟩, by show b - (i + 1) < b - i; omega, [(16, 16)], .cons _ _ _ (.c _ _ (.own _ _ rfl)) (.cons _ _ _ (.int_eq hip) (.cons _ _ _ (.int_eq ?_) .nil)), .old 16 16 _ _ _ rfl rfl (.data_eq rfl) .nil, rfl⟩
      show IntKind.i64.wrap ((j : Int) - 1) = ((a + b - 1 - (i + 1) : Nat) : Int)
      exact wrapN (by omega) (by omega)
    · show ARet _ _ _
      exact ⟨[(16, 16)], hp16 m, [], .nil, .old 16 16 _ _ _ rfl rfl (.data_eq rfl) .nil, rfl, rfl, m, rfl, hs⟩
end Go.Abs
