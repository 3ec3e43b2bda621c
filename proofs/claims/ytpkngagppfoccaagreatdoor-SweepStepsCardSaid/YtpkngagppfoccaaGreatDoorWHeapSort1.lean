/- Walks: the sort by a heap. -/
import Derived.Test.YtpkngagppfoccaaGreatDoorWPdqL
set_option linter.all false
set_option linter.unusedVariables false
set_option linter.unusedSimpArgs false
namespace Go.Abs
open Go.Proofs Go.Proofs.YtpkngagppfoccaaGreatDoor
set_option maxRecDepth 8000

set_option maxHeartbeats 2000000 in
theorem sift_spec (l : List Int) (lo hi f : Nat) (hl : f + hi ≤ l.length) (hh : HeapAt l f (lo + 1) hi) (hlo : lo ≤ hi) : Spec X 144 (hp16 l) [.c (.own 16), .int lo, .int hi, .int f] (fun H r => r = .tup [] ∧ ∃ l', H = hp16 l' ∧ Srt l l' f (f + hi) ∧ HeapAt l' f lo hi) := by
  refine spec_go X_ok Tryz.f144 (by kernel_rfl) (by kernel_rfl) (by kernel_rfl) fun hbd hH => ⟨rfl, ?_⟩
  have hmax : l.length ≤ maxN := hH 16 .int l rfl
  have hmx : l.length ≤ 140737488355328 := hmax
  show ∃ n, _
  refine ⟨0, ALoop.inv (ι := {p : List Int × Nat // Sift l p.1 f lo hi p.2 ∧ p.2 ≤ hi}) (fun p => ⟨[(0, .c (.own 16)), (2, .int hi), (3, .int f), (8, .int p.1.2)], [(16, .data .int p.1.1)], 64⟩) (fun p => hi - p.1.2) ⟨(l, lo), Sift.start hh, hlo⟩ ?_ ?_⟩
  · exact ⟨[(16, 16)], .cons _ _ _ (.c _ _ (.own _ _ rfl)) (.cons _ _ _ .same (.cons _ _ _ .same (.cons _ _ _ .same .nil))), .old 16 16 _ _ _ rfl rfl (.data_eq rfl) .nil, rfl⟩
  · rintro ⟨⟨m, r⟩, hS, hri⟩
    have hml : m.length = l.length := hS.srt.len
    have hri : r ≤ hi := hri
    have h2r : IntKind.i64.wrap (2 * (r : Int)) = ((2 * r : Nat) : Int) := wrapN (by omega) (by omega)
    have hC1 : IntKind.i64.wrap (IntKind.i64.wrap (2 * (r : Int)) + 1) = ((2 * r + 1 : Nat) : Int) := wrapN (by rw [h2r]; omega) (by omega)
    have hC2 : IntKind.i64.wrap (IntKind.i64.wrap (IntKind.i64.wrap (2 * (r : Int)) + 1) + 1) = ((2 * r + 2 : Nat) : Int) := wrapN (by rw [hC1]; omega) (by omega)
    show ABr (decide (IntKind.i64.wrap (IntKind.i64.wrap (2 * (r : Int)) + 1) ≥ (hi : Int))) _ _
    refine ⟨fun h1 => ?_, fun h1 => ?_⟩
    · have hge : hi ≤ 2 * r + 1 := by rw [hC1] at h1; simp at h1; omega
      show ARet _ _ _
      exact ⟨[(16, 16)], hp16 m, [], .nil, .old 16 16 _ _ _ rfl rfl (.data_eq rfl) .nil, rfl, rfl, m, rfl, hS.srt, hS.none hge⟩
    · have hlt : 2 * r + 1 < hi := by rw [hC1] at h1; simp at h1; omega
      have hG0 : IntKind.i64.wrap ((f : Int) + (r : Int)) = ((f + r : Nat) : Int) := wrapN (by omega) (by omega)
      have n0 : (IntKind.i64.wrap ((f : Int) + (r : Int))).toNat = f + r := by rw [hG0]; omega
      have hG1 : IntKind.i64.wrap ((f : Int) + IntKind.i64.wrap (IntKind.i64.wrap (2 * (r : Int)) + 1)) = ((f + (2 * r + 1) : Nat) : Int) := wrapN (by rw [hC1]; omega) (by omega)
      have n1 : (IntKind.i64.wrap ((f : Int) + IntKind.i64.wrap (IntKind.i64.wrap (2 * (r : Int)) + 1))).toNat = f + (2 * r + 1) := by rw [hG1]; omega
      have hG1p : IntKind.i64.wrap (IntKind.i64.wrap ((f : Int) + IntKind.i64.wrap (IntKind.i64.wrap (2 * (r : Int)) + 1)) + 1) = ((f + (2 * r + 2) : Nat) : Int) := wrapN (by rw [hG1]; omega) (by omega)
      have n1p : (IntKind.i64.wrap (IntKind.i64.wrap ((f : Int) + IntKind.i64.wrap (IntKind.i64.wrap (2 * (r : Int)) + 1)) + 1)).toNat = f + (2 * r + 2) := by rw [hG1p]; omega
      have hG2 : IntKind.i64.wrap ((f : Int) + IntKind.i64.wrap (IntKind.i64.wrap (IntKind.i64.wrap (2 * (r : Int)) + 1) + 1)) = ((f + (2 * r + 2) : Nat) : Int) := wrapN (by rw [hC2]; omega) (by omega)
      have n2 : (IntKind.i64.wrap ((f : Int) + IntKind.i64.wrap (IntKind.i64.wrap (IntKind.i64.wrap (2 * (r : Int)) + 1) + 1))).toNat = f + (2 * r + 2) := by rw [hG2]; omega
      show ABr (decide (IntKind.i64.wrap (IntKind.i64.wrap (IntKind.i64.wrap (2 * (r : Int)) + 1) + 1) < (hi : Int))) _ _
      refine ⟨fun h2 => ?_, fun h2 => ?_⟩
      · have hrt : 2 * r + 2 < hi := by rw [hC2] at h2; simp at h2; omega
        show AOb ((0 : Int) ≤ IntKind.i64.wrap ((f : Int) + IntKind.i64.wrap (IntKind.i64.wrap (2 * (r : Int)) + 1)) ∧ IntKind.i64.wrap ((f : Int) + IntKind.i64.wrap (IntKind.i64.wrap (2 * (r : Int)) + 1)) < (m.length : Int)) _
        refine ⟨by rw [hG1]; omega, ?_⟩
        show AOb ((IntKind.i64.wrap ((f : Int) + IntKind.i64.wrap (IntKind.i64.wrap (2 * (r : Int)) + 1))).toNat < m.length) _
        refine ⟨by rw [n1]; omega, ?_⟩
        show AOb ((0 : Int) ≤ IntKind.i64.wrap (IntKind.i64.wrap ((f : Int) + IntKind.i64.wrap (IntKind.i64.wrap (2 * (r : Int)) + 1)) + 1) ∧ IntKind.i64.wrap (IntKind.i64.wrap ((f : Int) + IntKind.i64.wrap (IntKind.i64.wrap (2 * (r : Int)) + 1)) + 1) < (m.length : Int)) _
        refine ⟨by rw [hG1p]; omega, ?_⟩
        show AOb ((IntKind.i64.wrap (IntKind.i64.wrap ((f : Int) + IntKind.i64.wrap (IntKind.i64.wrap (2 * (r : Int)) + 1)) + 1)).toNat < m.length) _
        refine ⟨by rw [n1p]; omega, ?_⟩
        show ADCall _ _ _ _ _ _
        refine .mk [] _ (Less_spec (at0 m (IntKind.i64.wrap ((f : Int) + IntKind.i64.wrap (IntKind.i64.wrap (2 * (r : Int)) + 1))).toNat) (at0 m (IntKind.i64.wrap (IntKind.i64.wrap ((f : Int) + IntKind.i64.wrap (IntKind.i64.wrap (2 * (r : Int)) + 1)) + 1)).toNat)) rfl ?_
        show ABr (decide (at0 m (IntKind.i64.wrap ((f : Int) + IntKind.i64.wrap (IntKind.i64.wrap (2 * (r : Int)) + 1))).toNat < at0 m (IntKind.i64.wrap (IntKind.i64.wrap ((f : Int) + IntKind.i64.wrap (IntKind.i64.wrap (2 * (r : Int)) + 1)) + 1)).toNat)) _ _
        refine ⟨fun h3 => ?_, fun h3 => ?_⟩
        · have hx3 : at0 m (f + (2 * r + 1)) < at0 m (f + (2 * r + 2)) := by rw [n1, n1p] at h3; simpa using h3
          have hbig : ∀ j, (j = 2 * r + 1 ∨ j = 2 * r + 2) → j < hi → at0 m (f + j) ≤ at0 m (f + (2 * r + 2)) := fun j hj hji => by
            rcases hj with rfl | rfl
            · omega
            · exact Int.le_refl _
          show AOb ((0 : Int) ≤ IntKind.i64.wrap ((f : Int) + (r : Int)) ∧ IntKind.i64.wrap ((f : Int) + (r : Int)) < (m.length : Int)) _
          refine ⟨by rw [hG0]; omega, ?_⟩
          show AOb ((IntKind.i64.wrap ((f : Int) + (r : Int))).toNat < m.length) _
          refine ⟨by rw [n0]; omega, ?_⟩
          show AOb ((0 : Int) ≤ IntKind.i64.wrap ((f : Int) + IntKind.i64.wrap (IntKind.i64.wrap (IntKind.i64.wrap (2 * (r : Int)) + 1) + 1)) ∧ IntKind.i64.wrap ((f : Int) + IntKind.i64.wrap (IntKind.i64.wrap (IntKind.i64.wrap (2 * (r : Int)) + 1) + 1)) < (m.length : Int)) _
          refine ⟨by rw [hG2]; omega, ?_⟩
          show AOb ((IntKind.i64.wrap ((f : Int) + IntKind.i64.wrap (IntKind.i64.wrap (IntKind.i64.wrap (2 * (r : Int)) + 1) + 1))).toNat < m.length) _
          refine ⟨by rw [n2]; omega, ?_⟩
          show ADCall _ _ _ _ _ _
          refine .mk [] _ (Less_spec (at0 m (IntKind.i64.wrap ((f : Int) + (r : Int))).toNat) (at0 m (IntKind.i64.wrap ((f : Int) + IntKind.i64.wrap (IntKind.i64.wrap (IntKind.i64.wrap (2 * (r : Int)) + 1) + 1))).toNat)) rfl ?_
          show ABr (!decide (at0 m (IntKind.i64.wrap ((f : Int) + (r : Int))).toNat < at0 m (IntKind.i64.wrap ((f : Int) + IntKind.i64.wrap (IntKind.i64.wrap (IntKind.i64.wrap (2 * (r : Int)) + 1) + 1))).toNat)) _ _
          refine ⟨fun h4 => ?_, fun h4 => ?_⟩
          · have hx : at0 m (f + (2 * r + 2)) ≤ at0 m (f + r) := by rw [n0, n2] at h4; simpa using h4
            show ARet _ _ _
            exact ⟨[(16, 16)], hp16 m, [], .nil, .old 16 16 _ _ _ rfl rfl (.data_eq rfl) .nil, rfl, rfl, m, rfl, hS.srt, hS.stop (c := (2 * r + 2)) (by omega) hbig hx⟩
          · have hx : at0 m (f + r) < at0 m (f + (2 * r + 2)) := by rw [n0, n2] at h4; simpa using h4
            show AOb ((0 : Int) ≤ IntKind.i64.wrap ((f : Int) + IntKind.i64.wrap (IntKind.i64.wrap (IntKind.i64.wrap (2 * (r : Int)) + 1) + 1)) ∧ IntKind.i64.wrap ((f : Int) + IntKind.i64.wrap (IntKind.i64.wrap (IntKind.i64.wrap (2 * (r : Int)) + 1) + 1)) < (m.length : Int)) _
            refine ⟨by rw [hG2]; omega, ?_⟩
            show AOb ((IntKind.i64.wrap ((f : Int) + IntKind.i64.wrap (IntKind.i64.wrap (IntKind.i64.wrap (2 * (r : Int)) + 1) + 1))).toNat < m.length) _
            refine ⟨by rw [n2]; omega, ?_⟩
            show AOb ((0 : Int) ≤ IntKind.i64.wrap ((f : Int) + (r : Int)) ∧ IntKind.i64.wrap ((f : Int) + (r : Int)) < (m.length : Int)) _
            refine ⟨by rw [hG0]; omega, ?_⟩
            show AOb ((IntKind.i64.wrap ((f : Int) + (r : Int))).toNat < m.length) _
            refine ⟨by rw [n0]; omega, ?_⟩
            show AOb ((0 : Int) ≤ IntKind.i64.wrap ((f : Int) + (r : Int)) ∧ IntKind.i64.wrap ((f : Int) + (r : Int)) < (m.length : Int)) _
            refine ⟨by rw [hG0]; omega, ?_⟩
            show AOb ((IntKind.i64.wrap ((f : Int) + (r : Int))).toNat < m.length) _
            refine ⟨by rw [n0]; omega, ?_⟩
            show AOb ((0 : Int) ≤ IntKind.i64.wrap ((f : Int) + IntKind.i64.wrap (IntKind.i64.wrap (IntKind.i64.wrap (2 * (r : Int)) + 1) + 1)) ∧ IntKind.i64.wrap ((f : Int) + IntKind.i64.wrap (IntKind.i64.wrap (IntKind.i64.wrap (2 * (r : Int)) + 1) + 1)) < ((m.set (IntKind.i64.wrap ((f : Int) + (r : Int))).toNat (at0 m (IntKind.i64.wrap ((f : Int) + IntKind.i64.wrap (IntKind.i64.wrap (IntKind.i64.wrap (2 * (r : Int)) + 1) + 1))).toNat)).length : Int)) _
            refine ⟨by rw [List.length_set]; rw [hG2]; omega, ?_⟩
            show AOb ((IntKind.i64.wrap ((f : Int) + IntKind.i64.wrap (IntKind.i64.wrap (IntKind.i64.wrap (2 * (r : Int)) + 1) + 1))).toNat < (m.set (IntKind.i64.wrap ((f : Int) + (r : Int))).toNat (at0 m (IntKind.i64.wrap ((f : Int) + IntKind.i64.wrap (IntKind.i64.wrap (IntKind.i64.wrap (2 * (r : Int)) + 1) + 1))).toNat)).length) _
            refine ⟨by rw [List.length_set]; rw [n2]; omega, ?_⟩
            show ARound _ _ _ _
            refine ⟨⟨(swp m (f + r) (f + (2 * r + 2)), (2 * r + 2)), hS.step hl (by omega) (by omega) hbig hx, by show (2 * r + 2) ≤ hi; omega⟩, by show hi - (2 * r + 2) < hi - r; omega, [(16, 16)], .cons _ _ _ (.c _ _ (.own _ _ rfl)) (.cons _ _ _ .same (.cons _ _ _ .same (.cons _ _ _ (.int_eq hC2) .nil))), .old 16 16 _ _ _ rfl rfl (.data_eq ?_) .nil, rfl⟩
            show (m.set (IntKind.i64.wrap ((f : Int) + (r : Int))).toNat (at0 m (IntKind.i64.wrap ((f : Int) + IntKind.i64.wrap (IntKind.i64.wrap (IntKind.i64.wrap (2 * (r : Int)) + 1) + 1))).toNat)).set (IntKind.i64.wrap ((f : Int) + IntKind.i64.wrap (IntKind.i64.wrap (IntKind.i64.wrap (2 * (r : Int)) + 1) + 1))).toNat (at0 m (IntKind.i64.wrap ((f : Int) + (r : Int))).toNat) = swp m (f + r) (f + (2 * r + 2))
            rw [n0, n2]
            rfl
        · have hx3 : at0 m (f + (2 * r + 2)) ≤ at0 m (f + (2 * r + 1)) := by rw [n1, n1p] at h3; simpa using h3
          have hbig : ∀ j, (j = 2 * r + 1 ∨ j = 2 * r + 2) → j < hi → at0 m (f + j) ≤ at0 m (f + (2 * r + 1)) := fun j hj hji => by
            rcases hj with rfl | rfl
            · exact Int.le_refl _
            · exact hx3
          show AOb ((0 : Int) ≤ IntKind.i64.wrap ((f : Int) + (r : Int)) ∧ IntKind.i64.wrap ((f : Int) + (r : Int)) < (m.length : Int)) _
          refine ⟨by rw [hG0]; omega, ?_⟩
          show AOb ((IntKind.i64.wrap ((f : Int) + (r : Int))).toNat < m.length) _
          refine ⟨by rw [n0]; omega, ?_⟩
          show AOb ((0 : Int) ≤ IntKind.i64.wrap ((f : Int) + IntKind.i64.wrap (IntKind.i64.wrap (2 * (r : Int)) + 1)) ∧ IntKind.i64.wrap ((f : Int) + IntKind.i64.wrap (IntKind.i64.wrap (2 * (r : Int)) + 1)) < (m.length : Int)) _
          refine ⟨by rw [hG1]; omega, ?_⟩
          show AOb ((IntKind.i64.wrap ((f : Int) + IntKind.i64.wrap (IntKind.i64.wrap (2 * (r : Int)) + 1))).toNat < m.length) _
          refine ⟨by rw [n1]; omega, ?_⟩
          show ADCall _ _ _ _ _ _
          refine .mk [] _ (Less_spec (at0 m (IntKind.i64.wrap ((f : Int) + (r : Int))).toNat) (at0 m (IntKind.i64.wrap ((f : Int) + IntKind.i64.wrap (IntKind.i64.wrap (2 * (r : Int)) + 1))).toNat)) rfl ?_
          show ABr (!decide (at0 m (IntKind.i64.wrap ((f : Int) + (r : Int))).toNat < at0 m (IntKind.i64.wrap ((f : Int) + IntKind.i64.wrap (IntKind.i64.wrap (2 * (r : Int)) + 1))).toNat)) _ _
          refine ⟨fun h4 => ?_, fun h4 => ?_⟩
          · have hx : at0 m (f + (2 * r + 1)) ≤ at0 m (f + r) := by rw [n0, n1] at h4; simpa using h4
            show ARet _ _ _
            exact ⟨[(16, 16)], hp16 m, [], .nil, .old 16 16 _ _ _ rfl rfl (.data_eq rfl) .nil, rfl, rfl, m, rfl, hS.srt, hS.stop (c := (2 * r + 1)) (by omega) hbig hx⟩
          · have hx : at0 m (f + r) < at0 m (f + (2 * r + 1)) := by rw [n0, n1] at h4; simpa using h4
            show AOb ((0 : Int) ≤ IntKind.i64.wrap ((f : Int) + IntKind.i64.wrap (IntKind.i64.wrap (2 * (r : Int)) + 1)) ∧ IntKind.i64.wrap ((f : Int) + IntKind.i64.wrap (IntKind.i64.wrap (2 * (r : Int)) + 1)) < (m.length : Int)) _
            refine ⟨by rw [hG1]; omega, ?_⟩
            show AOb ((IntKind.i64.wrap ((f : Int) + IntKind.i64.wrap (IntKind.i64.wrap (2 * (r : Int)) + 1))).toNat < m.length) _
            refine ⟨by rw [n1]; omega, ?_⟩
            show AOb ((0 : Int) ≤ IntKind.i64.wrap ((f : Int) + (r : Int)) ∧ IntKind.i64.wrap ((f : Int) + (r : Int)) < (m.length : Int)) _
            refine ⟨by rw [hG0]; omega, ?_⟩
            show AOb ((IntKind.i64.wrap ((f : Int) + (r : Int))).toNat < m.length) _
            refine ⟨by rw [n0]; omega, ?_⟩
            show AOb ((0 : Int) ≤ IntKind.i64.wrap ((f : Int) + (r : Int)) ∧ IntKind.i64.wrap ((f : Int) + (r : Int)) < (m.length : Int)) _
            refine ⟨by rw [hG0]; omega, ?_⟩
            show AOb ((IntKind.i64.wrap ((f : Int) + (r : Int))).toNat < m.length) _
            refine ⟨by rw [n0]; omega, ?_⟩
            show AOb ((0 : Int) ≤ IntKind.i64.wrap ((f : Int) + IntKind.i64.wrap (IntKind.i64.wrap (2 * (r : Int)) + 1)) ∧ IntKind.i64.wrap ((f : Int) + IntKind.i64.wrap (IntKind.i64.wrap (2 * (r : Int)) + 1)) < ((m.set (IntKind.i64.wrap ((f : Int) + (r : Int))).toNat (at0 m (IntKind.i64.wrap ((f : Int) + IntKind.i64.wrap (IntKind.i64.wrap (2 * (r : Int)) + 1))).toNat)).length : Int)) _
            refine ⟨by rw [List.length_set]; rw [hG1]; omega, ?_⟩
            show AOb ((IntKind.i64.wrap ((f : Int) + IntKind.i64.wrap (IntKind.i64.wrap (2 * (r : Int)) + 1))).toNat < (m.set (IntKind.i64.wrap ((f : Int) + (r : Int))).toNat (at0 m (IntKind.i64.wrap ((f : Int) + IntKind.i64.wrap (IntKind.i64.wrap (2 * (r : Int)) + 1))).toNat)).length) _
            refine ⟨by rw [List.length_set]; rw [n1]; omega, ?_⟩
            show ARound _ _ _ _
            refine ⟨⟨(swp m (f + r) (f + (2 * r + 1)), (2 * r + 1)), hS.step hl (by omega) (by omega) hbig hx, by show (2 * r + 1) ≤ hi; omega⟩, by show hi - (2 * r + 1) < hi - r; omega, [(16, 16)], .cons _ _ _ (.c _ _ (.own _ _ rfl)) (.cons _ _ _ .same (.cons _ _ _ .same (.cons _ _ _ (.int_eq hC1) .nil))), .old 16 16 _ _ _ rfl rfl (.data_eq ?_) .nil, rfl⟩
            show (m.set (IntKind.i64.wrap ((f : Int) + (r : Int))).toNat (at0 m (IntKind.i64.wrap ((f : Int) + IntKind.i64.wrap (IntKind.i64.wrap (2 * (r : Int)) + 1))).toNat)).set (IntKind.i64.wrap ((f : Int) + IntKind.i64.wrap (IntKind.i64.wrap (2 * (r : Int)) + 1))).toNat (at0 m (IntKind.i64.wrap ((f : Int) + (r : Int))).toNat) = swp m (f + r) (f + (2 * r + 1))
            rw [n0, n1]
            rfl
      · have hrt : hi ≤ 2 * r + 2 := by rw [hC2] at h2; simp at h2; omega
        show ABr _ _ _
        refine ⟨fun hx => absurd hx (by decide), fun _ => ?_⟩
        have hbig : ∀ j, (j = 2 * r + 1 ∨ j = 2 * r + 2) → j < hi → at0 m (f + j) ≤ at0 m (f + (2 * r + 1)) := fun j hj hji => by
          rcases hj with rfl | rfl
          · exact Int.le_refl _
          · omega
        show AOb ((0 : Int) ≤ IntKind.i64.wrap ((f : Int) + (r : Int)) ∧ IntKind.i64.wrap ((f : Int) + (r : Int)) < (m.length : Int)) _
        refine ⟨by rw [hG0]; omega, ?_⟩
        show AOb ((IntKind.i64.wrap ((f : Int) + (r : Int))).toNat < m.length) _
        refine ⟨by rw [n0]; omega, ?_⟩
        show AOb ((0 : Int) ≤ IntKind.i64.wrap ((f : Int) + IntKind.i64.wrap (IntKind.i64.wrap (2 * (r : Int)) + 1)) ∧ IntKind.i64.wrap ((f : Int) + IntKind.i64.wrap (IntKind.i64.wrap (2 * (r : Int)) + 1)) < (m.length : Int)) _
        refine ⟨by rw [hG1]; omega, ?_⟩
        show AOb ((IntKind.i64.wrap ((f : Int) + IntKind.i64.wrap (IntKind.i64.wrap (2 * (r : Int)) + 1))).toNat < m.length) _
        refine ⟨by rw [n1]; omega, ?_⟩
        show ADCall _ _ _ _ _ _
        refine .mk [] _ (Less_spec (at0 m (IntKind.i64.wrap ((f : Int) + (r : Int))).toNat) (at0 m (IntKind.i64.wrap ((f : Int) + IntKind.i64.wrap (IntKind.i64.wrap (2 * (r : Int)) + 1))).toNat)) rfl ?_
        show ABr (!decide (at0 m (IntKind.i64.wrap ((f : Int) + (r : Int))).toNat < at0 m (IntKind.i64.wrap ((f : Int) + IntKind.i64.wrap (IntKind.i64.wrap (2 * (r : Int)) + 1))).toNat)) _ _
        refine ⟨fun h4 => ?_, fun h4 => ?_⟩
        · have hx : at0 m (f + (2 * r + 1)) ≤ at0 m (f + r) := by rw [n0, n1] at h4; simpa using h4
          show ARet _ _ _
          exact ⟨[(16, 16)], hp16 m, [], .nil, .old 16 16 _ _ _ rfl rfl (.data_eq rfl) .nil, rfl, rfl, m, rfl, hS.srt, hS.stop (c := (2 * r + 1)) (by omega) hbig hx⟩
        · have hx : at0 m (f + r) < at0 m (f + (2 * r + 1)) := by rw [n0, n1] at h4; simpa using h4
          show AOb ((0 : Int) ≤ IntKind.i64.wrap ((f : Int) + IntKind.i64.wrap (IntKind.i64.wrap (2 * (r : Int)) + 1)) ∧ IntKind.i64.wrap ((f : Int) + IntKind.i64.wrap (IntKind.i64.wrap (2 * (r : Int)) + 1)) < (m.length : Int)) _
          refine ⟨by rw [hG1]; omega, ?_⟩
          show AOb ((IntKind.i64.wrap ((f : Int) + IntKind.i64.wrap (IntKind.i64.wrap (2 * (r : Int)) + 1))).toNat < m.length) _
          refine ⟨by rw [n1]; omega, ?_⟩
          show AOb ((0 : Int) ≤ IntKind.i64.wrap ((f : Int) + (r : Int)) ∧ IntKind.i64.wrap ((f : Int) + (r : Int)) < (m.length : Int)) _
          refine ⟨by rw [hG0]; omega, ?_⟩
          show AOb ((IntKind.i64.wrap ((f : Int) + (r : Int))).toNat < m.length) _
          refine ⟨by rw [n0]; omega, ?_⟩
          show AOb ((0 : Int) ≤ IntKind.i64.wrap ((f : Int) + (r : Int)) ∧ IntKind.i64.wrap ((f : Int) + (r : Int)) < (m.length : Int)) _
          refine ⟨by rw [hG0]; omega, ?_⟩
          show AOb ((IntKind.i64.wrap ((f : Int) + (r : Int))).toNat < m.length) _
          refine ⟨by rw [n0]; omega, ?_⟩
          show AOb ((0 : Int) ≤ IntKind.i64.wrap ((f : Int) + IntKind.i64.wrap (IntKind.i64.wrap (2 * (r : Int)) + 1)) ∧ IntKind.i64.wrap ((f : Int) + IntKind.i64.wrap (IntKind.i64.wrap (2 * (r : Int)) + 1)) < ((m.set (IntKind.i64.wrap ((f : Int) + (r : Int))).toNat (at0 m (IntKind.i64.wrap ((f : Int) + IntKind.i64.wrap (IntKind.i64.wrap (2 * (r : Int)) + 1))).toNat)).length : Int)) _
          refine ⟨by rw [List.length_set]; rw [hG1]; omega, ?_⟩
          show AOb ((IntKind.i64.wrap ((f : Int) + IntKind.i64.wrap (IntKind.i64.wrap (2 * (r : Int)) + 1))).toNat < (m.set (IntKind.i64.wrap ((f : Int) + (r : Int))).toNat (at0 m (IntKind.i64.wrap ((f : Int) + IntKind.i64.wrap (IntKind.i64.wrap (2 * (r : Int)) + 1))).toNat)).length) _
          refine ⟨by rw [List.length_set]; rw [n1]; omega, ?_⟩
          show ARound _ _ _ _
          refine ⟨⟨(swp m (f + r) (f + (2 * r + 1)), (2 * r + 1)), hS.step hl (by omega) (by omega) hbig hx, by show (2 * r + 1) ≤ hi; omega⟩, by show hi - (2 * r + 1) < hi - r; omega, [(16, 16)], .cons _ _ _ (.c _ _ (.own _ _ rfl)) (.cons _ _ _ .same (.cons _ _ _ .same (.cons _ _ _ (.int_eq hC1) .nil))), .old 16 16 _ _ _ rfl rfl (.data_eq ?_) .nil, rfl⟩
          show (m.set (IntKind.i64.wrap ((f : Int) + (r : Int))).toNat (at0 m (IntKind.i64.wrap ((f : Int) + IntKind.i64.wrap (IntKind.i64.wrap (2 * (r : Int)) + 1))).toNat)).set (IntKind.i64.wrap ((f : Int) + IntKind.i64.wrap (IntKind.i64.wrap (2 * (r : Int)) + 1))).toNat (at0 m (IntKind.i64.wrap ((f : Int) + (r : Int))).toNat) = swp m (f + r) (f + (2 * r + 1))
          rw [n0, n1]
          rfl
end Go.Abs

namespace Go.Abs
open Go.Proofs Go.Proofs.YtpkngagppfoccaaGreatDoor
set_option maxRecDepth 8000

theorem HS.pre {l m : List Int} {f n i : Nat} (h : HS l m f n (i + 1)) (hl : f + n ≤ l.length) : HeapAt (swp m f (f + i)) f (0 + 1) i := by
  have hml := h.srt.len
  have hin := h.hin
  intro p q h1 h2 h3
  have hat := swp_at m f (f + i)
  rw [hat (f + q) (by omega) (by omega), hat (f + p) (by omega) (by omega), if_neg (by omega), if_neg (by omega), if_neg (by omega), if_neg (by omega)]
  exact h.heap p q (Nat.zero_le _) h2 (by omega)

set_option maxHeartbeats 1000000 in
theorem heapSort_spec (l : List Int) (a b : Nat) (hab : a < b) (hb : b ≤ l.length) : Spec X 131 (hp16 l) [.c (.own 16), .int a, .int b] (SortQ l a b) := by
  refine spec_go X_ok Tryz.f131 (by kernel_rfl) (by kernel_rfl) (by kernel_rfl) fun hbd hH => ⟨rfl, ?_⟩
  have hmax : l.length ≤ maxN := hH 16 .int l rfl
  have hmx : l.length ≤ 140737488355328 := hmax
  have hL : IntKind.i64.wrap ((b : Int) - (a : Int)) = ((b - a : Nat) : Int) := wrapN (by omega) (by omega)
  have hL1 : IntKind.i64.wrap (IntKind.i64.wrap ((b : Int) - (a : Int)) - 1) = ((b - a - 1 : Nat) : Int) := wrapN (by rw [hL]; omega) (by omega)
  have hD : ((IntKind.i64.wrap (IntKind.i64.wrap ((b : Int) - (a : Int)) - 1)).tdiv 2) = (((b - a - 1) / 2 : Nat) : Int) := by rw [hL1]; exact tdivN _ 2
  have hQ : IntKind.i64.wrap ((IntKind.i64.wrap (IntKind.i64.wrap ((b : Int) - (a : Int)) - 1)).tdiv 2) = (((b - a - 1) / 2 : Nat) : Int) := wrapN hD (by omega)
  have hn : a + (b - a) = b := by omega
  show AOb ((2 : Int) ≠ 0) _
  refine ⟨by decide, ?_⟩
  show ∃ n, _
  refine ⟨0, ALoop.inv (ι := {p : List Int × Nat // Srt l p.1 a (a + (b - a)) ∧ HeapAt p.1 a p.2 (b - a) ∧ p.2 ≤ b - a}) (fun p => ⟨[(0, .c (.own 16)), (6, .int a), (7, .int 0), (8, .int (b - a : Nat)), (9, .int ((p.1.2 : Int) - 1))], [(16, .data .int p.1.1)], 64⟩) (fun p => p.1.2) ⟨(l, (b - a - 1) / 2 + 1), Srt.refl _ _ _, fun i j h1 h2 h3 => by have h1 : (b - a - 1) / 2 + 1 ≤ i := h1; omega, by show (b - a - 1) / 2 + 1 ≤ b - a; omega⟩ ?_ ?_⟩
  · refine ⟨[(16, 16)], .cons _ _ _ (.c _ _ (.own _ _ rfl)) (.cons _ _ _ .same (.cons _ _ _ .same (.cons _ _ _ (.int_eq hL) (.cons _ _ _ (.int_eq ?_) .nil)))), .old 16 16 _ _ _ rfl rfl (.data_eq rfl) .nil, rfl⟩
    show IntKind.i64.wrap ((IntKind.i64.wrap (IntKind.i64.wrap ((b : Int) - (a : Int)) - 1)).tdiv 2) = (((b - a - 1) / 2 + 1 : Nat) : Int) - 1
    rw [hQ]; omega
  · rintro ⟨⟨m, j⟩, hs, hh, hj⟩
    have hml : m.length = l.length := hs.len
    have hj : j ≤ b - a := hj
    show ABr (decide ((j : Int) - 1 ≥ 0)) _ _
    refine ⟨fun h1 => ?_, fun h1 => ?_⟩
    · have hjp : 0 < j := by simp at h1; omega
      have ej : (j : Int) - 1 = ((j - 1 : Nat) : Int) := by omega
      show ACall _ _ _ _ _ _
      refine .hand [(16, 16)] (hp16 m) [.c (.own 16), .int (j - 1 : Nat), .int (b - a : Nat), .int a] _ (.cons _ _ _ _ (.c _ _ (.own _ _ rfl)) (.cons _ _ _ _ (.int_eq ej) (.cons _ _ _ _ .same (.cons _ _ _ _ .same .nil)))) (.old 16 16 _ _ _ rfl rfl (.data_eq rfl) .nil) rfl (sift_spec m (j - 1) (b - a) a (by omega) (by rw [show j - 1 + 1 = j by omega]; exact hh) (by omega)) ?_
      rintro H r ⟨rfl, m', rfl, g1, g2⟩ _ _
      refine ⟨rfl, .inr ⟨rfl, rfl⟩, ?_⟩
      show ARound _ _ _ _
      refine ⟨⟨(m', j - 1), hs.trans g1, g2, by show j - 1 ≤ b - a; omega⟩, by show j - 1 < j; omega, [(16, 16)], .cons _ _ _ (.c _ _ (.own _ _ rfl)) (.cons _ _ _ .same (.cons _ _ _ .same (.cons _ _ _ .same (.cons _ _ _ (.int_eq ?_) .nil)))), .old 16 16 _ _ _ rfl rfl (.data_eq rfl) .nil, rfl⟩
      show IntKind.i64.wrap ((j : Int) - 1 - 1) = ((j - 1 : Nat) : Int) - 1
      rw [wrap64 (by omega) (by omega)]; omega
    · have hj0 : j = 0 := by simp at h1; omega
      subst hj0
      show ∃ n, _
      refine ⟨0, ALoop.inv (ι := {p : List Int × Nat // HS l p.1 a (b - a) p.2}) (fun p => ⟨[(0, .c (.own 16)), (6, .int a), (7, .int 0), (10, .int ((p.1.2 : Int) - 1))], [(16, .data .int p.1.1)], 64⟩) (fun p => p.1.2) ⟨(m, b - a), HS.start hs hh⟩ ?_ ?_⟩
      · refine ⟨[(16, 16)], .cons _ _ _ (.c _ _ (.own _ _ rfl)) (.cons _ _ _ .same (.cons _ _ _ .same (.cons _ _ _ (.int_eq ?_) .nil))), .old 16 16 _ _ _ rfl rfl (.data_eq rfl) .nil, rfl⟩
        show IntKind.i64.wrap (((b - a : Nat) : Int) - 1) = ((b - a : Nat) : Int) - 1
        rw [wrap64 (by omega) (by omega)]
      · rintro ⟨⟨m, k⟩, hS⟩
        have hml : m.length = l.length := hS.srt.len
        have hk : k ≤ b - a := hS.hin
        show ABr (decide ((k : Int) - 1 ≥ 0)) _ _
        refine ⟨fun h1 => ?_, fun h1 => ?_⟩
        · have hkp : 0 < k := by simp at h1; omega
          obtain ⟨i, rfl⟩ : ∃ i, k = i + 1 := ⟨k - 1, by omega⟩
          have hG : IntKind.i64.wrap ((a : Int) + (((i + 1 : Nat) : Int) - 1)) = ((a + i : Nat) : Int) := wrapN (by omega) (by omega)
          have hN : (IntKind.i64.wrap ((a : Int) + (((i + 1 : Nat) : Int) - 1))).toNat = a + i := by rw [hG]; omega
          show AOb ((0 : Int) ≤ IntKind.i64.wrap ((a : Int) + (((i + 1 : Nat) : Int) - 1)) ∧ IntKind.i64.wrap ((a : Int) + (((i + 1 : Nat) : Int) - 1)) < (m.length : Int)) _
          refine ⟨by rw [hG]; omega, ?_⟩
          show AOb ((IntKind.i64.wrap ((a : Int) + (((i + 1 : Nat) : Int) - 1))).toNat < m.length) _
          refine ⟨by rw [hN]; omega, ?_⟩
          show AOb ((0 : Int) ≤ (a : Int) ∧ (a : Int) < (m.length : Int)) _
          refine ⟨by omega, ?_⟩
          show AOb ((a : Int).toNat < m.length) _
          refine ⟨by omega, ?_⟩
          show AOb ((0 : Int) ≤ (a : Int) ∧ (a : Int) < (m.length : Int)) _
          refine ⟨by omega, ?_⟩
          show AOb ((a : Int).toNat < m.length) _
          refine ⟨by omega, ?_⟩
          show AOb ((0 : Int) ≤ IntKind.i64.wrap ((a : Int) + (((i + 1 : Nat) : Int) - 1)) ∧ IntKind.i64.wrap ((a : Int) + (((i + 1 : Nat) : Int) - 1)) < ((m.set (a : Int).toNat (at0 m (IntKind.i64.wrap ((a : Int) + (((i + 1 : Nat) : Int) - 1))).toNat)).length : Int)) _
          refine ⟨by rw [List.length_set, hG]; omega, ?_⟩
          show AOb ((IntKind.i64.wrap ((a : Int) + (((i + 1 : Nat) : Int) - 1))).toNat < (m.set (a : Int).toNat (at0 m (IntKind.i64.wrap ((a : Int) + (((i + 1 : Nat) : Int) - 1))).toNat)).length) _
          refine ⟨by rw [List.length_set, hN]; omega, ?_⟩
          have ei : (((i + 1 : Nat) : Int) - 1) = ((i : Nat) : Int) := by omega
          have es : (m.set (a : Int).toNat (at0 m (IntKind.i64.wrap ((a : Int) + (((i + 1 : Nat) : Int) - 1))).toNat)).set (IntKind.i64.wrap ((a : Int) + (((i + 1 : Nat) : Int) - 1))).toNat (at0 m (a : Int).toNat) = swp m a (a + i) := by rw [hN]; rfl
          show ACall _ _ _ _ _ _
          refine .hand [(16, 16)] (hp16 (swp m a (a + i))) [.c (.own 16), .int (0 : Nat), .int i, .int a] _ (.cons _ _ _ _ (.c _ _ (.own _ _ rfl)) (.cons _ _ _ _ .same (.cons _ _ _ _ (.int_eq ei) (.cons _ _ _ _ .same .nil)))) (.old 16 16 _ _ _ rfl rfl (.data_eq es) .nil) rfl (sift_spec (swp m a (a + i)) 0 i a (by rw [swp_len]; omega) (hS.pre (by omega)) (Nat.zero_le _)) ?_
          rintro H r ⟨rfl, m', rfl, g1, g2⟩ _ _
          refine ⟨rfl, .inr ⟨rfl, rfl⟩, ?_⟩
          show ARound _ _ _ _
          refine ⟨⟨(m', i), hS.step (by omega) g1 g2⟩, by show i < i + 1; omega, [(16, 16)], .cons _ _ _ (.c _ _ (.own _ _ rfl)) (.cons _ _ _ .same (.cons _ _ _ .same (.cons _ _ _ (.int_eq ?_) .nil))), .old 16 16 _ _ _ rfl rfl (.data_eq rfl) .nil, rfl⟩
          show IntKind.i64.wrap (((i + 1 : Nat) : Int) - 1 - 1) = (i : Int) - 1
          rw [wrap64 (by omega) (by omega)]; omega
        · have hk0 : k = 0 := by simp at h1; omega
          subst hk0
          show ARet _ _ _
          refine ⟨[(16, 16)], hp16 m, [], .nil, .old 16 16 _ _ _ rfl rfl (.data_eq rfl) .nil, rfl, rfl, m, rfl, ?_, ?_⟩
          · have := hS.srt; rwa [hn] at this
          · have := HS.done hS; rwa [hn] at this
end Go.Abs
