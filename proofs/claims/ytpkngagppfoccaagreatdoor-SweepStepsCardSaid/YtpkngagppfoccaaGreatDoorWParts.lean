/- Walks: how a sort parts a slice; how it sorts short ones. -/
import Derived.Test.YtpkngagppfoccaaGreatDoorWPdqL
set_option linter.all false
set_option linter.unusedVariables false
set_option linter.unusedSimpArgs false
namespace Go.Abs
open Go.Proofs Go.Proofs.YtpkngagppfoccaaGreatDoor
set_option maxRecDepth 8000

def EqQ (l : List Int) (a b q : Nat) : Heap → TV → Prop := fun H r => ∃ (mid : Nat) (l' : List Int), H = hp16 l' ∧ r = .int mid ∧ EqPart l l' a b (at0 l q) mid
def PartQ (l : List Int) (a b : Nat) : Heap → TV → Prop := fun H r => ∃ (mid : Nat) (x : Bool) (l' : List Int), H = hp16 l' ∧ r = .tup [.int mid, .bo x] ∧ Part2 l l' a b mid

set_option maxHeartbeats 2000000 in
theorem partEq_spec (l : List Int) (a b q : Nat) (haq : a ≤ q) (hqb : q < b) (hbl : b ≤ l.length) : Spec X 136 (hp16 l) [.c (.own 16), .int a, .int b, .int q] (EqQ l a b q) := by
  refine spec_go X_ok Tryz.f136 (by kernel_rfl) (by kernel_rfl) (by kernel_rfl) fun hb hH => ⟨rfl, ?_⟩
  have hmax : l.length ≤ maxN := hH 16 .int l rfl
  have hmx : l.length ≤ 140737488355328 := hmax
  have hp0 := Pt.start (l := l) haq hqb hbl
  have hi0 : IntKind.i64.wrap ((a : Int) + 1) = ((a + 1 : Nat) : Int) := wrapN (by omega) (by omega)
  have hj0 : IntKind.i64.wrap ((b : Int) - 1) = ((b - 1 : Nat) : Int) := wrapN (by omega) (by omega)
  show AOb ((0 : Int) ≤ (q : Int) ∧ (q : Int) < (l.length : Int)) _
  refine ⟨by omega, ?_⟩
  show AOb (((q : Int)).toNat < l.length) _
  refine ⟨by omega, ?_⟩
  show AOb ((0 : Int) ≤ (a : Int) ∧ (a : Int) < (l.length : Int)) _
  refine ⟨by omega, ?_⟩
  show AOb (((a : Int)).toNat < l.length) _
  refine ⟨by omega, ?_⟩
  show AOb ((0 : Int) ≤ (a : Int) ∧ (a : Int) < (l.length : Int)) _
  refine ⟨by omega, ?_⟩
  show AOb (((a : Int)).toNat < l.length) _
  refine ⟨by omega, ?_⟩
  show AOb ((0 : Int) ≤ (q : Int) ∧ (q : Int) < ((l.set ((a : Int)).toNat (at0 l ((q : Int)).toNat)).length : Int)) _
  refine ⟨by rw [List.length_set]; omega, ?_⟩
  show AOb (((q : Int)).toNat < (l.set ((a : Int)).toNat (at0 l ((q : Int)).toNat)).length) _
  refine ⟨by rw [List.length_set]; omega, ?_⟩
  have es : ((l.set ((a : Int)).toNat (at0 l ((q : Int)).toNat))).set ((q : Int)).toNat (at0 l ((a : Int)).toNat) = swp l a q := by rfl
  show ∃ n, _
  refine ⟨0, ALoop.inv (ι := {p : List Int × Nat × Nat // Pt l p.1 a b (at0 l q) p.2.1 p.2.2}) (fun p => ⟨[(0, .c (.own 16)), (1, .int a), (9, .int p.1.2.1), (10, .int p.1.2.2)], [(16, .data .int p.1.1)], 64⟩) (fun p => p.1.2.2 + 1 - p.1.2.1) ⟨(swp l a q, a + 1, b - 1), hp0⟩ ?_ ?_⟩
  · exact ⟨[(16, 16)], .cons _ _ _ (.c _ _ (.own _ _ rfl)) (.cons _ _ _ .same (.cons _ _ _ (.int_eq hi0) (.cons _ _ _ (.int_eq hj0) .nil))), .old 16 16 _ _ _ rfl rfl (.data_eq es) .nil, rfl⟩
  · rintro ⟨⟨m0, i0, j0⟩, hP⟩
    have hle0 : i0 ≤ j0 + 1 := hP.ij
    show ∃ n, _
    refine ⟨0, ALoop.inv (ι := {p : List Int × Nat × Nat // Pt l p.1 a b (at0 l q) p.2.1 p.2.2 ∧ i0 ≤ p.2.1 ∧ p.2.2 ≤ j0}) (fun p => ⟨[(0, .c (.own 16)), (1, .int a), (9, .int p.1.2.1), (10, .int p.1.2.2)], [(16, .data .int p.1.1)], 64⟩) (fun p => p.1.2.2 + 1 - p.1.2.1) ⟨(m0, i0, j0), hP, Nat.le_refl _, Nat.le_refl _⟩ ?_ ?_⟩
    · exact ⟨[(16, 16)], .cons _ _ _ (.c _ _ (.own _ _ rfl)) (.cons _ _ _ .same (.cons _ _ _ .same (.cons _ _ _ .same .nil))), .old 16 16 _ _ _ rfl rfl (.data_eq rfl) .nil, rfl⟩
    · rintro ⟨⟨m, i, j⟩, hP, hi0, hj0⟩
      have hi0 : i0 ≤ i := hi0
      have hj0 : j ≤ j0 := hj0
      have hml : m.length = l.length := hP.srt.len
      have hai : a < i := hP.ai
      have hij : i ≤ j + 1 := hP.ij
      have hjb : j < b := hP.jb
      have hap : at0 m a = at0 l q := hP.piv
      have hwi := wrapP (i := i) (by omega)
      show ABr (decide ((i : Int) ≤ (j : Int))) _ _
      refine ⟨fun hx => ?_, fun hx => ?_⟩
      · have hle : i ≤ j := by simp at hx; omega
        show AOb ((0 : Int) ≤ (a : Int) ∧ (a : Int) < (m.length : Int)) _
        refine ⟨by omega, ?_⟩
        show AOb (((a : Int)).toNat < m.length) _
        refine ⟨by omega, ?_⟩
        show AOb ((0 : Int) ≤ (i : Int) ∧ (i : Int) < (m.length : Int)) _
        refine ⟨by omega, ?_⟩
        show AOb (((i : Int)).toNat < m.length) _
        refine ⟨by omega, ?_⟩
        show ADCall _ _ _ _ _ _
        refine .mk [] _ (Less_spec (at0 m ((a : Int)).toNat) (at0 m ((i : Int)).toNat)) rfl ?_
        show ABr (!decide (at0 m a < at0 m i)) _ _
        refine ⟨fun hz => ?_, fun hz => ?_⟩
        · have hy : at0 m i ≤ at0 l q := by simp at hz; omega
          show ARound _ _ _ _
          exact ⟨⟨(m, i + 1, j), hP.up hle hy, by show i0 ≤ i + 1; omega, hj0⟩, by show j + 1 - (i + 1) < j + 1 - i; omega, [(16, 16)], .cons _ _ _ (.c _ _ (.own _ _ rfl)) (.cons _ _ _ .same (.cons _ _ _ (.int_eq hwi) (.cons _ _ _ .same .nil))), .old 16 16 _ _ _ rfl rfl (.data_eq rfl) .nil, rfl⟩
        · have hn : at0 l q ≤ at0 m i ∧ at0 l q < at0 m i := by simp at hz; omega
          show ∃ n, _
          refine ⟨0, ALoop.inv (ι := {p : Nat // Pt l m a b (at0 l q) i p ∧ p ≤ j}) (fun p => ⟨[(0, .c (.own 16)), (1, .int a), (9, .int i), (10, .int p.1)], [(16, .data .int m)], 64⟩) (fun p => p.1) ⟨j, hP, Nat.le_refl _⟩ ?_ ?_⟩
          · exact ⟨[(16, 16)], .cons _ _ _ (.c _ _ (.own _ _ rfl)) (.cons _ _ _ .same (.cons _ _ _ .same (.cons _ _ _ .same .nil))), .old 16 16 _ _ _ rfl rfl (.data_eq rfl) .nil, rfl⟩
          · rintro ⟨k, hP, hkj⟩
            have hml : m.length = l.length := hP.srt.len
            have hai : a < i := hP.ai
            have hij : i ≤ k + 1 := hP.ij
            have hjb : k < b := hP.jb
            have hap : at0 m a = at0 l q := hP.piv
            have hwi := wrapP (i := i) (by omega)
            show ABr (decide ((i : Int) ≤ (k : Int))) _ _
            refine ⟨fun hx => ?_, fun hx => ?_⟩
            · have hle : i ≤ k := by simp at hx; omega
              have hwk := wrapM (i := k) (by omega) (by omega)
              show AOb ((0 : Int) ≤ (a : Int) ∧ (a : Int) < (m.length : Int)) _
              refine ⟨by omega, ?_⟩
              show AOb (((a : Int)).toNat < m.length) _
              refine ⟨by omega, ?_⟩
              show AOb ((0 : Int) ≤ (k : Int) ∧ (k : Int) < (m.length : Int)) _
              refine ⟨by omega, ?_⟩
              show AOb (((k : Int)).toNat < m.length) _
              refine ⟨by omega, ?_⟩
              show ADCall _ _ _ _ _ _
              refine .mk [] _ (Less_spec (at0 m ((a : Int)).toNat) (at0 m ((k : Int)).toNat)) rfl ?_
              show ABr (decide (at0 m a < at0 m k)) _ _
              refine ⟨fun hz => ?_, fun hz => ?_⟩
              · have hy : at0 l q ≤ at0 m k := by simp at hz; omega
                show ARound _ _ _ _
                exact ⟨⟨k - 1, hP.down hle hy, by show k - 1 ≤ j; omega⟩, by show k - 1 < k; omega, [(16, 16)], .cons _ _ _ (.c _ _ (.own _ _ rfl)) (.cons _ _ _ .same (.cons _ _ _ .same (.cons _ _ _ (.int_eq hwk) .nil))), .old 16 16 _ _ _ rfl rfl (.data_eq rfl) .nil, rfl⟩
              · have hk : at0 m k ≤ at0 l q ∧ at0 m k ≤ at0 l q := by simp at hz; omega
                have hlt : i < k := Nat.lt_of_le_of_ne hle (fun e => by rw [e] at hn; omega)
                show ABr (decide ((i : Int) > (k : Int))) _ _
                refine ⟨fun hx => absurd hx (by simp; omega), fun _ => ?_⟩
                show AOb ((0 : Int) ≤ (k : Int) ∧ (k : Int) < (m.length : Int)) _
                refine ⟨by omega, ?_⟩
                show AOb (((k : Int)).toNat < m.length) _
                refine ⟨by omega, ?_⟩
                show AOb ((0 : Int) ≤ (i : Int) ∧ (i : Int) < (m.length : Int)) _
                refine ⟨by omega, ?_⟩
                show AOb (((i : Int)).toNat < m.length) _
                refine ⟨by omega, ?_⟩
                show AOb ((0 : Int) ≤ (i : Int) ∧ (i : Int) < (m.length : Int)) _
                refine ⟨by omega, ?_⟩
                show AOb (((i : Int)).toNat < m.length) _
                refine ⟨by omega, ?_⟩
                show AOb ((0 : Int) ≤ (k : Int) ∧ (k : Int) < ((m.set ((i : Int)).toNat (at0 m ((k : Int)).toNat)).length : Int)) _
                refine ⟨by rw [List.length_set]; omega, ?_⟩
                show AOb (((k : Int)).toNat < (m.set ((i : Int)).toNat (at0 m ((k : Int)).toNat)).length) _
                refine ⟨by rw [List.length_set]; omega, ?_⟩
                have es : ((m.set ((i : Int)).toNat (at0 m ((k : Int)).toNat))).set ((k : Int)).toNat (at0 m ((i : Int)).toNat) = swp m i k := by rfl
                show ARound _ _ _ _
                exact ⟨⟨(swp m i k, i + 1, k - 1), hP.swap hbl hlt hn.1 hk.1⟩, by show k - 1 + 1 - (i + 1) < j0 + 1 - i0; omega, [(16, 16)], .cons _ _ _ (.c _ _ (.own _ _ rfl)) (.cons _ _ _ .same (.cons _ _ _ (.int_eq hwi) (.cons _ _ _ (.int_eq hwk) .nil))), .old 16 16 _ _ _ rfl rfl (.data_eq es) .nil, rfl⟩
            · have hgt : k < i := by simp at hx; omega
              show ABr _ _ _
              refine ⟨fun hx => absurd hx (by decide), fun _ => ?_⟩
              show ABr (decide ((i : Int) > (k : Int))) _ _
              refine ⟨fun _ => ?_, fun hx => absurd hx (by simp; omega)⟩
              show ARet _ _ _
              exact ⟨[(16, 16)], hp16 m, [.int i], .cons _ _ _ _ .same .nil, .old 16 16 _ _ _ rfl rfl (.data_eq rfl) .nil, rfl, i, m, rfl, rfl, hP.eq hgt⟩
      · have hgt : j < i := by simp at hx; omega
        show ABr _ _ _
        refine ⟨fun hx => absurd hx (by decide), fun _ => ?_⟩
        show ∃ n, _
        refine ⟨1, .next ?_⟩
        show ABr (decide ((i : Int) ≤ (j : Int))) _ _
        refine ⟨fun hx => absurd hx (by simp; omega), fun _ => ?_⟩
        show ABr _ _ _
        refine ⟨fun hx => absurd hx (by decide), fun _ => ?_⟩
        show ABr (decide ((i : Int) > (j : Int))) _ _
        refine ⟨fun _ => ?_, fun hx => absurd hx (by simp; omega)⟩
        show ARet _ _ _
        exact ⟨[(16, 16)], hp16 m, [.int i], .cons _ _ _ _ .same .nil, .old 16 16 _ _ _ rfl rfl (.data_eq rfl) .nil, rfl, i, m, rfl, rfl, hP.eq hgt⟩

set_option maxHeartbeats 2000000 in
theorem part_spec (l : List Int) (a b q : Nat) (haq : a ≤ q) (hqb : q < b) (hbl : b ≤ l.length) : Spec X 137 (hp16 l) [.c (.own 16), .int a, .int b, .int q] (PartQ l a b) := by
  refine spec_go X_ok Tryz.f137 (by kernel_rfl) (by kernel_rfl) (by kernel_rfl) fun hb hH => ⟨rfl, ?_⟩
  have hmax : l.length ≤ maxN := hH 16 .int l rfl
  have hmx : l.length ≤ 140737488355328 := hmax
  have hp0 := Pt.start (l := l) haq hqb hbl
  have hi0 : IntKind.i64.wrap ((a : Int) + 1) = ((a + 1 : Nat) : Int) := wrapN (by omega) (by omega)
  have hj0 : IntKind.i64.wrap ((b : Int) - 1) = ((b - 1 : Nat) : Int) := wrapN (by omega) (by omega)
  show AOb ((0 : Int) ≤ (q : Int) ∧ (q : Int) < (l.length : Int)) _
  refine ⟨by omega, ?_⟩
  show AOb (((q : Int)).toNat < l.length) _
  refine ⟨by omega, ?_⟩
  show AOb ((0 : Int) ≤ (a : Int) ∧ (a : Int) < (l.length : Int)) _
  refine ⟨by omega, ?_⟩
  show AOb (((a : Int)).toNat < l.length) _
  refine ⟨by omega, ?_⟩
  show AOb ((0 : Int) ≤ (a : Int) ∧ (a : Int) < (l.length : Int)) _
  refine ⟨by omega, ?_⟩
  show AOb (((a : Int)).toNat < l.length) _
  refine ⟨by omega, ?_⟩
  show AOb ((0 : Int) ≤ (q : Int) ∧ (q : Int) < ((l.set ((a : Int)).toNat (at0 l ((q : Int)).toNat)).length : Int)) _
  refine ⟨by rw [List.length_set]; omega, ?_⟩
  show AOb (((q : Int)).toNat < (l.set ((a : Int)).toNat (at0 l ((q : Int)).toNat)).length) _
  refine ⟨by rw [List.length_set]; omega, ?_⟩
  have es : ((l.set ((a : Int)).toNat (at0 l ((q : Int)).toNat))).set ((q : Int)).toNat (at0 l ((a : Int)).toNat) = swp l a q := by rfl
  show ∃ n, _
  refine ⟨0, ALoop.inv (ι := {p : List Int × Nat × Nat // Pt l p.1 a b (at0 l q) p.2.1 p.2.2}) (fun p => ⟨[(0, .c (.own 16)), (1, .int a), (10, .int p.1.2.1), (11, .int p.1.2.2)], [(16, .data .int p.1.1)], 64⟩) (fun p => p.1.2.2 + 1 - p.1.2.1) ⟨(swp l a q, a + 1, b - 1), hp0⟩ ?_ ?_⟩
  · exact ⟨[(16, 16)], .cons _ _ _ (.c _ _ (.own _ _ rfl)) (.cons _ _ _ .same (.cons _ _ _ (.int_eq hi0) (.cons _ _ _ (.int_eq hj0) .nil))), .old 16 16 _ _ _ rfl rfl (.data_eq es) .nil, rfl⟩
  · rintro ⟨⟨m, i, j⟩, hP⟩
    have hml : m.length = l.length := hP.srt.len
    have hai : a < i := hP.ai
    have hij : i ≤ j + 1 := hP.ij
    have hjb : j < b := hP.jb
    have hap : at0 m a = at0 l q := hP.piv
    have hwi := wrapP (i := i) (by omega)
    show ABr (decide ((i : Int) ≤ (j : Int))) _ _
    refine ⟨fun hx => ?_, fun hx => ?_⟩
    · have hle : i ≤ j := by simp at hx; omega
      show AOb ((0 : Int) ≤ (i : Int) ∧ (i : Int) < (m.length : Int)) _
      refine ⟨by omega, ?_⟩
      show AOb (((i : Int)).toNat < m.length) _
      refine ⟨by omega, ?_⟩
      show AOb ((0 : Int) ≤ (a : Int) ∧ (a : Int) < (m.length : Int)) _
      refine ⟨by omega, ?_⟩
      show AOb (((a : Int)).toNat < m.length) _
      refine ⟨by omega, ?_⟩
      show ADCall _ _ _ _ _ _
      refine .mk [] _ (Less_spec (at0 m ((i : Int)).toNat) (at0 m ((a : Int)).toNat)) rfl ?_
      show ABr (decide (at0 m i < at0 m a)) _ _
      refine ⟨fun hz => ?_, fun hz => ?_⟩
      · have hy : at0 m i ≤ at0 l q := by simp at hz; omega
        show ARound _ _ _ _
        exact ⟨⟨(m, i + 1, j), hP.up hle hy⟩, by show j + 1 - (i + 1) < j + 1 - i; omega, [(16, 16)], .cons _ _ _ (.c _ _ (.own _ _ rfl)) (.cons _ _ _ .same (.cons _ _ _ (.int_eq hwi) (.cons _ _ _ .same .nil))), .old 16 16 _ _ _ rfl rfl (.data_eq rfl) .nil, rfl⟩
      · have hn : at0 l q ≤ at0 m i ∧ at0 l q ≤ at0 m i := by simp at hz; omega
        show ∃ n, _
        refine ⟨0, ALoop.inv (ι := {p : Nat // Pt l m a b (at0 l q) i p ∧ p ≤ j}) (fun p => ⟨[(0, .c (.own 16)), (1, .int a), (10, .int i), (11, .int p.1)], [(16, .data .int m)], 64⟩) (fun p => p.1) ⟨j, hP, Nat.le_refl _⟩ ?_ ?_⟩
        · exact ⟨[(16, 16)], .cons _ _ _ (.c _ _ (.own _ _ rfl)) (.cons _ _ _ .same (.cons _ _ _ .same (.cons _ _ _ .same .nil))), .old 16 16 _ _ _ rfl rfl (.data_eq rfl) .nil, rfl⟩
        · rintro ⟨k, hP, hkj⟩
          have hml : m.length = l.length := hP.srt.len
          have hai : a < i := hP.ai
          have hij : i ≤ k + 1 := hP.ij
          have hjb : k < b := hP.jb
          have hap : at0 m a = at0 l q := hP.piv
          have hwi := wrapP (i := i) (by omega)
          show ABr (decide ((i : Int) ≤ (k : Int))) _ _
          refine ⟨fun hx => ?_, fun hx => ?_⟩
          · have hle : i ≤ k := by simp at hx; omega
            have hwk := wrapM (i := k) (by omega) (by omega)
            show AOb ((0 : Int) ≤ (k : Int) ∧ (k : Int) < (m.length : Int)) _
            refine ⟨by omega, ?_⟩
            show AOb (((k : Int)).toNat < m.length) _
            refine ⟨by omega, ?_⟩
            show AOb ((0 : Int) ≤ (a : Int) ∧ (a : Int) < (m.length : Int)) _
            refine ⟨by omega, ?_⟩
            show AOb (((a : Int)).toNat < m.length) _
            refine ⟨by omega, ?_⟩
            show ADCall _ _ _ _ _ _
            refine .mk [] _ (Less_spec (at0 m ((k : Int)).toNat) (at0 m ((a : Int)).toNat)) rfl ?_
            show ABr (!decide (at0 m k < at0 m a)) _ _
            refine ⟨fun hz => ?_, fun hz => ?_⟩
            · have hy : at0 l q ≤ at0 m k := by simp at hz; omega
              show ARound _ _ _ _
              exact ⟨⟨k - 1, hP.down hle hy, by show k - 1 ≤ j; omega⟩, by show k - 1 < k; omega, [(16, 16)], .cons _ _ _ (.c _ _ (.own _ _ rfl)) (.cons _ _ _ .same (.cons _ _ _ .same (.cons _ _ _ (.int_eq hwk) .nil))), .old 16 16 _ _ _ rfl rfl (.data_eq rfl) .nil, rfl⟩
            · have hk : at0 m k ≤ at0 l q ∧ at0 m k < at0 l q := by simp at hz; omega
              have hlt : i < k := Nat.lt_of_le_of_ne hle (fun e => by rw [e] at hn; omega)
              show ABr (decide ((i : Int) > (k : Int))) _ _
              refine ⟨fun hx => absurd hx (by simp; omega), fun _ => ?_⟩
              show AOb ((0 : Int) ≤ (k : Int) ∧ (k : Int) < (m.length : Int)) _
              refine ⟨by omega, ?_⟩
              show AOb (((k : Int)).toNat < m.length) _
              refine ⟨by omega, ?_⟩
              show AOb ((0 : Int) ≤ (i : Int) ∧ (i : Int) < (m.length : Int)) _
              refine ⟨by omega, ?_⟩
              show AOb (((i : Int)).toNat < m.length) _
              refine ⟨by omega, ?_⟩
              show AOb ((0 : Int) ≤ (i : Int) ∧ (i : Int) < (m.length : Int)) _
              refine ⟨by omega, ?_⟩
              show AOb (((i : Int)).toNat < m.length) _
              refine ⟨by omega, ?_⟩
              show AOb ((0 : Int) ≤ (k : Int) ∧ (k : Int) < ((m.set ((i : Int)).toNat (at0 m ((k : Int)).toNat)).length : Int)) _
              refine ⟨by rw [List.length_set]; omega, ?_⟩
              show AOb (((k : Int)).toNat < (m.set ((i : Int)).toNat (at0 m ((k : Int)).toNat)).length) _
              refine ⟨by rw [List.length_set]; omega, ?_⟩
              have es : ((m.set ((i : Int)).toNat (at0 m ((k : Int)).toNat))).set ((k : Int)).toNat (at0 m ((i : Int)).toNat) = swp m i k := by rfl
              show ∃ n, _
              refine ⟨0, ALoop.inv (ι := {p : List Int × Nat × Nat // Pt l p.1 a b (at0 l q) p.2.1 p.2.2}) (fun p => ⟨[(0, .c (.own 16)), (1, .int a), (10, .int p.1.2.1), (11, .int p.1.2.2)], [(16, .data .int p.1.1)], 64⟩) (fun p => p.1.2.2 + 1 - p.1.2.1) ⟨(swp m i k, i + 1, k - 1), hP.swap hbl hlt hn.1 hk.1⟩ ?_ ?_⟩
              · exact ⟨[(16, 16)], .cons _ _ _ (.c _ _ (.own _ _ rfl)) (.cons _ _ _ .same (.cons _ _ _ (.int_eq hwi) (.cons _ _ _ (.int_eq hwk) .nil))), .old 16 16 _ _ _ rfl rfl (.data_eq es) .nil, rfl⟩
              · clear hn hk hlt hml hai hij hjb hap hwi hwk hle hx hz hP hkj
                rintro ⟨⟨m0, i0, j0⟩, hP⟩
                have hle0 : i0 ≤ j0 + 1 := hP.ij
                show ∃ n, _
                refine ⟨0, ALoop.inv (ι := {p : List Int × Nat × Nat // Pt l p.1 a b (at0 l q) p.2.1 p.2.2 ∧ i0 ≤ p.2.1 ∧ p.2.2 ≤ j0}) (fun p => ⟨[(0, .c (.own 16)), (1, .int a), (10, .int p.1.2.1), (11, .int p.1.2.2)], [(16, .data .int p.1.1)], 64⟩) (fun p => p.1.2.2 + 1 - p.1.2.1) ⟨(m0, i0, j0), hP, Nat.le_refl _, Nat.le_refl _⟩ ?_ ?_⟩
                · exact ⟨[(16, 16)], .cons _ _ _ (.c _ _ (.own _ _ rfl)) (.cons _ _ _ .same (.cons _ _ _ .same (.cons _ _ _ .same .nil))), .old 16 16 _ _ _ rfl rfl (.data_eq rfl) .nil, rfl⟩
                · rintro ⟨⟨m, i, j⟩, hP, hi0, hj0⟩
                  have hi0 : i0 ≤ i := hi0
                  have hj0 : j ≤ j0 := hj0
                  have hml : m.length = l.length := hP.srt.len
                  have hai : a < i := hP.ai
                  have hij : i ≤ j + 1 := hP.ij
                  have hjb : j < b := hP.jb
                  have hap : at0 m a = at0 l q := hP.piv
                  have hwi := wrapP (i := i) (by omega)
                  show ABr (decide ((i : Int) ≤ (j : Int))) _ _
                  refine ⟨fun hx => ?_, fun hx => ?_⟩
                  · have hle : i ≤ j := by simp at hx; omega
                    show AOb ((0 : Int) ≤ (i : Int) ∧ (i : Int) < (m.length : Int)) _
                    refine ⟨by omega, ?_⟩
                    show AOb (((i : Int)).toNat < m.length) _
                    refine ⟨by omega, ?_⟩
                    show AOb ((0 : Int) ≤ (a : Int) ∧ (a : Int) < (m.length : Int)) _
                    refine ⟨by omega, ?_⟩
                    show AOb (((a : Int)).toNat < m.length) _
                    refine ⟨by omega, ?_⟩
                    show ADCall _ _ _ _ _ _
                    refine .mk [] _ (Less_spec (at0 m ((i : Int)).toNat) (at0 m ((a : Int)).toNat)) rfl ?_
                    show ABr (decide (at0 m i < at0 m a)) _ _
                    refine ⟨fun hz => ?_, fun hz => ?_⟩
                    · have hy : at0 m i ≤ at0 l q := by simp at hz; omega
                      show ARound _ _ _ _
                      exact ⟨⟨(m, i + 1, j), hP.up hle hy, by show i0 ≤ i + 1; omega, hj0⟩, by show j + 1 - (i + 1) < j + 1 - i; omega, [(16, 16)], .cons _ _ _ (.c _ _ (.own _ _ rfl)) (.cons _ _ _ .same (.cons _ _ _ (.int_eq hwi) (.cons _ _ _ .same .nil))), .old 16 16 _ _ _ rfl rfl (.data_eq rfl) .nil, rfl⟩
                    · have hn : at0 l q ≤ at0 m i ∧ at0 l q ≤ at0 m i := by simp at hz; omega
                      show ∃ n, _
                      refine ⟨0, ALoop.inv (ι := {p : Nat // Pt l m a b (at0 l q) i p ∧ p ≤ j}) (fun p => ⟨[(0, .c (.own 16)), (1, .int a), (10, .int i), (11, .int p.1)], [(16, .data .int m)], 64⟩) (fun p => p.1) ⟨j, hP, Nat.le_refl _⟩ ?_ ?_⟩
                      · exact ⟨[(16, 16)], .cons _ _ _ (.c _ _ (.own _ _ rfl)) (.cons _ _ _ .same (.cons _ _ _ .same (.cons _ _ _ .same .nil))), .old 16 16 _ _ _ rfl rfl (.data_eq rfl) .nil, rfl⟩
                      · rintro ⟨k, hP, hkj⟩
                        have hml : m.length = l.length := hP.srt.len
                        have hai : a < i := hP.ai
                        have hij : i ≤ k + 1 := hP.ij
                        have hjb : k < b := hP.jb
                        have hap : at0 m a = at0 l q := hP.piv
                        have hwi := wrapP (i := i) (by omega)
                        show ABr (decide ((i : Int) ≤ (k : Int))) _ _
                        refine ⟨fun hx => ?_, fun hx => ?_⟩
                        · have hle : i ≤ k := by simp at hx; omega
                          have hwk := wrapM (i := k) (by omega) (by omega)
                          show AOb ((0 : Int) ≤ (k : Int) ∧ (k : Int) < (m.length : Int)) _
                          refine ⟨by omega, ?_⟩
                          show AOb (((k : Int)).toNat < m.length) _
                          refine ⟨by omega, ?_⟩
                          show AOb ((0 : Int) ≤ (a : Int) ∧ (a : Int) < (m.length : Int)) _
                          refine ⟨by omega, ?_⟩
                          show AOb (((a : Int)).toNat < m.length) _
                          refine ⟨by omega, ?_⟩
                          show ADCall _ _ _ _ _ _
                          refine .mk [] _ (Less_spec (at0 m ((k : Int)).toNat) (at0 m ((a : Int)).toNat)) rfl ?_
                          show ABr (!decide (at0 m k < at0 m a)) _ _
                          refine ⟨fun hz => ?_, fun hz => ?_⟩
                          · have hy : at0 l q ≤ at0 m k := by simp at hz; omega
                            show ARound _ _ _ _
                            exact ⟨⟨k - 1, hP.down hle hy, by show k - 1 ≤ j; omega⟩, by show k - 1 < k; omega, [(16, 16)], .cons _ _ _ (.c _ _ (.own _ _ rfl)) (.cons _ _ _ .same (.cons _ _ _ .same (.cons _ _ _ (.int_eq hwk) .nil))), .old 16 16 _ _ _ rfl rfl (.data_eq rfl) .nil, rfl⟩
                          · have hk : at0 m k ≤ at0 l q ∧ at0 m k < at0 l q := by simp at hz; omega
                            have hlt : i < k := Nat.lt_of_le_of_ne hle (fun e => by rw [e] at hn; omega)
                            show ABr (decide ((i : Int) > (k : Int))) _ _
                            refine ⟨fun hx => absurd hx (by simp; omega), fun _ => ?_⟩
                            show AOb ((0 : Int) ≤ (k : Int) ∧ (k : Int) < (m.length : Int)) _
                            refine ⟨by omega, ?_⟩
                            show AOb (((k : Int)).toNat < m.length) _
                            refine ⟨by omega, ?_⟩
                            show AOb ((0 : Int) ≤ (i : Int) ∧ (i : Int) < (m.length : Int)) _
                            refine ⟨by omega, ?_⟩
                            show AOb (((i : Int)).toNat < m.length) _
                            refine ⟨by omega, ?_⟩
                            show AOb ((0 : Int) ≤ (i : Int) ∧ (i : Int) < (m.length : Int)) _
                            refine ⟨by omega, ?_⟩
                            show AOb (((i : Int)).toNat < m.length) _
                            refine ⟨by omega, ?_⟩
                            show AOb ((0 : Int) ≤ (k : Int) ∧ (k : Int) < ((m.set ((i : Int)).toNat (at0 m ((k : Int)).toNat)).length : Int)) _
                            refine ⟨by rw [List.length_set]; omega, ?_⟩
                            show AOb (((k : Int)).toNat < (m.set ((i : Int)).toNat (at0 m ((k : Int)).toNat)).length) _
                            refine ⟨by rw [List.length_set]; omega, ?_⟩
                            have es : ((m.set ((i : Int)).toNat (at0 m ((k : Int)).toNat))).set ((k : Int)).toNat (at0 m ((i : Int)).toNat) = swp m i k := by rfl
                            show ARound _ _ _ _
                            exact ⟨⟨(swp m i k, i + 1, k - 1), hP.swap hbl hlt hn.1 hk.1⟩, by show k - 1 + 1 - (i + 1) < j0 + 1 - i0; omega, [(16, 16)], .cons _ _ _ (.c _ _ (.own _ _ rfl)) (.cons _ _ _ .same (.cons _ _ _ (.int_eq hwi) (.cons _ _ _ (.int_eq hwk) .nil))), .old 16 16 _ _ _ rfl rfl (.data_eq es) .nil, rfl⟩
                        · have hgt : k < i := by simp at hx; omega
                          show ABr _ _ _
                          refine ⟨fun hx => absurd hx (by decide), fun _ => ?_⟩
                          show ABr (decide ((i : Int) > (k : Int))) _ _
                          refine ⟨fun _ => ?_, fun hx => absurd hx (by simp; omega)⟩
                          show AOb ((0 : Int) ≤ (a : Int) ∧ (a : Int) < (m.length : Int)) _
                          refine ⟨by omega, ?_⟩
                          show AOb (((a : Int)).toNat < m.length) _
                          refine ⟨by omega, ?_⟩
                          show AOb ((0 : Int) ≤ (k : Int) ∧ (k : Int) < (m.length : Int)) _
                          refine ⟨by omega, ?_⟩
                          show AOb (((k : Int)).toNat < m.length) _
                          refine ⟨by omega, ?_⟩
                          show AOb ((0 : Int) ≤ (k : Int) ∧ (k : Int) < (m.length : Int)) _
                          refine ⟨by omega, ?_⟩
                          show AOb (((k : Int)).toNat < m.length) _
                          refine ⟨by omega, ?_⟩
                          show AOb ((0 : Int) ≤ (a : Int) ∧ (a : Int) < ((m.set ((k : Int)).toNat (at0 m ((a : Int)).toNat)).length : Int)) _
                          refine ⟨by rw [List.length_set]; omega, ?_⟩
                          show AOb (((a : Int)).toNat < (m.set ((k : Int)).toNat (at0 m ((a : Int)).toNat)).length) _
                          refine ⟨by rw [List.length_set]; omega, ?_⟩
                          have es : ((m.set ((k : Int)).toNat (at0 m ((a : Int)).toNat))).set ((a : Int)).toNat (at0 m ((k : Int)).toNat) = swp m k a := by rfl
                          show ARet _ _ _
                          exact ⟨[(16, 16)], hp16 (swp m k a), [.int k, .bo false], .cons _ _ _ _ .same (.cons _ _ _ _ .same .nil), .old 16 16 _ _ _ rfl rfl (.data_eq es) .nil, rfl, k, false, _, rfl, rfl, hP.part hbl hgt⟩
                  · have hgt : j < i := by simp at hx; omega
                    show ABr _ _ _
                    refine ⟨fun hx => absurd hx (by decide), fun _ => ?_⟩
                    show ∃ n, _
                    refine ⟨1, .next ?_⟩
                    show ABr (decide ((i : Int) ≤ (j : Int))) _ _
                    refine ⟨fun hx => absurd hx (by simp; omega), fun _ => ?_⟩
                    show ABr _ _ _
                    refine ⟨fun hx => absurd hx (by decide), fun _ => ?_⟩
                    show ABr (decide ((i : Int) > (j : Int))) _ _
                    refine ⟨fun _ => ?_, fun hx => absurd hx (by simp; omega)⟩
                    show AOb ((0 : Int) ≤ (a : Int) ∧ (a : Int) < (m.length : Int)) _
                    refine ⟨by omega, ?_⟩
                    show AOb (((a : Int)).toNat < m.length) _
                    refine ⟨by omega, ?_⟩
                    show AOb ((0 : Int) ≤ (j : Int) ∧ (j : Int) < (m.length : Int)) _
                    refine ⟨by omega, ?_⟩
                    show AOb (((j : Int)).toNat < m.length) _
                    refine ⟨by omega, ?_⟩
                    show AOb ((0 : Int) ≤ (j : Int) ∧ (j : Int) < (m.length : Int)) _
                    refine ⟨by omega, ?_⟩
                    show AOb (((j : Int)).toNat < m.length) _
                    refine ⟨by omega, ?_⟩
                    show AOb ((0 : Int) ≤ (a : Int) ∧ (a : Int) < ((m.set ((j : Int)).toNat (at0 m ((a : Int)).toNat)).length : Int)) _
                    refine ⟨by rw [List.length_set]; omega, ?_⟩
                    show AOb (((a : Int)).toNat < (m.set ((j : Int)).toNat (at0 m ((a : Int)).toNat)).length) _
                    refine ⟨by rw [List.length_set]; omega, ?_⟩
                    have es : ((m.set ((j : Int)).toNat (at0 m ((a : Int)).toNat))).set ((a : Int)).toNat (at0 m ((j : Int)).toNat) = swp m j a := by rfl
                    show ARet _ _ _
                    exact ⟨[(16, 16)], hp16 (swp m j a), [.int j, .bo false], .cons _ _ _ _ .same (.cons _ _ _ _ .same .nil), .old 16 16 _ _ _ rfl rfl (.data_eq es) .nil, rfl, j, false, _, rfl, rfl, hP.part hbl hgt⟩
          · have hgt : k < i := by simp at hx; omega
            show ABr _ _ _
            refine ⟨fun hx => absurd hx (by decide), fun _ => ?_⟩
            show ABr (decide ((i : Int) > (k : Int))) _ _
            refine ⟨fun _ => ?_, fun hx => absurd hx (by simp; omega)⟩
            show AOb ((0 : Int) ≤ (a : Int) ∧ (a : Int) < (m.length : Int)) _
            refine ⟨by omega, ?_⟩
            show AOb (((a : Int)).toNat < m.length) _
            refine ⟨by omega, ?_⟩
            show AOb ((0 : Int) ≤ (k : Int) ∧ (k : Int) < (m.length : Int)) _
            refine ⟨by omega, ?_⟩
            show AOb (((k : Int)).toNat < m.length) _
            refine ⟨by omega, ?_⟩
            show AOb ((0 : Int) ≤ (k : Int) ∧ (k : Int) < (m.length : Int)) _
            refine ⟨by omega, ?_⟩
            show AOb (((k : Int)).toNat < m.length) _
            refine ⟨by omega, ?_⟩
            show AOb ((0 : Int) ≤ (a : Int) ∧ (a : Int) < ((m.set ((k : Int)).toNat (at0 m ((a : Int)).toNat)).length : Int)) _
            refine ⟨by rw [List.length_set]; omega, ?_⟩
            show AOb (((a : Int)).toNat < (m.set ((k : Int)).toNat (at0 m ((a : Int)).toNat)).length) _
            refine ⟨by rw [List.length_set]; omega, ?_⟩
            have es : ((m.set ((k : Int)).toNat (at0 m ((a : Int)).toNat))).set ((a : Int)).toNat (at0 m ((k : Int)).toNat) = swp m k a := by rfl
            show ARet _ _ _
            exact ⟨[(16, 16)], hp16 (swp m k a), [.int k, .bo true], .cons _ _ _ _ .same (.cons _ _ _ _ .same .nil), .old 16 16 _ _ _ rfl rfl (.data_eq es) .nil, rfl, k, true, _, rfl, rfl, hP.part hbl hgt⟩
    · have hgt : j < i := by simp at hx; omega
      show ABr _ _ _
      refine ⟨fun hx => absurd hx (by decide), fun _ => ?_⟩
      show ∃ n, _
      refine ⟨1, .next ?_⟩
      show ABr (decide ((i : Int) ≤ (j : Int))) _ _
      refine ⟨fun hx => absurd hx (by simp; omega), fun _ => ?_⟩
      show ABr _ _ _
      refine ⟨fun hx => absurd hx (by decide), fun _ => ?_⟩
      show ABr (decide ((i : Int) > (j : Int))) _ _
      refine ⟨fun _ => ?_, fun hx => absurd hx (by simp; omega)⟩
      show AOb ((0 : Int) ≤ (a : Int) ∧ (a : Int) < (m.length : Int)) _
      refine ⟨by omega, ?_⟩
      show AOb (((a : Int)).toNat < m.length) _
      refine ⟨by omega, ?_⟩
      show AOb ((0 : Int) ≤ (j : Int) ∧ (j : Int) < (m.length : Int)) _
      refine ⟨by omega, ?_⟩
      show AOb (((j : Int)).toNat < m.length) _
      refine ⟨by omega, ?_⟩
      show AOb ((0 : Int) ≤ (j : Int) ∧ (j : Int) < (m.length : Int)) _
      refine ⟨by omega, ?_⟩
      show AOb (((j : Int)).toNat < m.length) _
      refine ⟨by omega, ?_⟩
      show AOb ((0 : Int) ≤ (a : Int) ∧ (a : Int) < ((m.set ((j : Int)).toNat (at0 m ((a : Int)).toNat)).length : Int)) _
      refine ⟨by rw [List.length_set]; omega, ?_⟩
      show AOb (((a : Int)).toNat < (m.set ((j : Int)).toNat (at0 m ((a : Int)).toNat)).length) _
      refine ⟨by rw [List.length_set]; omega, ?_⟩
      have es : ((m.set ((j : Int)).toNat (at0 m ((a : Int)).toNat))).set ((a : Int)).toNat (at0 m ((j : Int)).toNat) = swp m j a := by rfl
      show ARet _ _ _
      exact ⟨[(16, 16)], hp16 (swp m j a), [.int j, .bo true], .cons _ _ _ _ .same (.cons _ _ _ _ .same .nil), .old 16 16 _ _ _ rfl rfl (.data_eq es) .nil, rfl, j, true, _, rfl, rfl, hP.part hbl hgt⟩

end Go.Abs

namespace Go.Abs
open Go.Proofs Go.Proofs.YtpkngagppfoccaaGreatDoor
set_option maxRecDepth 8000

theorem Sorted.swp_out {m : List Int} {a i c x : Nat} (h : Sorted m a i) (h1 : i ≤ c) (h2 : i ≤ x) (hc : c < m.length) (hx : x < m.length) : Sorted (swp m c x) a i := fun p q h3 h4 h5 => by
  rw [swp_at m c x p hc hx, swp_at m c x q hc hx, if_neg (by omega), if_neg (by omega), if_neg (by omega), if_neg (by omega)]
  exact h p q h3 h4 h5

def PinsQ (l : List Int) (a b : Nat) : Heap → TV → Prop := fun H r => ∃ (x : Bool) (l' : List Int), H = hp16 l' ∧ r = .bo x ∧ Srt l l' a b ∧ (x = true → Sorted l' a b)

set_option maxHeartbeats 2000000 in
theorem pins_spec (l : List Int) (a b : Nat) (hab : a < b) (hbl : b ≤ l.length) (hlow : Lws l a b) : Spec X 135 (hp16 l) [.c (.own 16), .int a, .int b] (PinsQ l a b) := by
  refine spec_go X_ok Tryz.f135 (by kernel_rfl) (by kernel_rfl) (by kernel_rfl) fun hb hH => ⟨rfl, ?_⟩
  have hmax : l.length ≤ maxN := hH 16 .int l rfl
  have hmx : l.length ≤ 140737488355328 := hmax
  have ha1 : IntKind.i64.wrap ((a : Int) + 1) = ((a + 1 : Nat) : Int) := wrapN (by omega) (by omega)
  have hba : IntKind.i64.wrap ((b : Int) - (a : Int)) = ((b - a : Nat) : Int) := wrapN (by omega) (by omega)
  show ∃ n, _
  refine ⟨0, ALoop.inv (ι := {p : List Int × Nat × Nat // Srt l p.1 a b ∧ Sorted p.1 a p.2.1 ∧ a < p.2.1 ∧ p.2.1 ≤ b}) (fun p => ⟨[(0, .c (.own 16)), (1, .int a), (2, .int b), (7, .int p.1.2.1), (8, .int p.1.2.2)], [(16, .data .int p.1.1)], 64⟩) (fun p => 5 - p.1.2.2) ⟨(l, a + 1, 0), Srt.refl _ _ _, Sorted.one _ _, Nat.lt_succ_self a, hab⟩ ?_ ?_⟩
  · exact ⟨[(16, 16)], .cons _ _ _ (.c _ _ (.own _ _ rfl)) (.cons _ _ _ .same (.cons _ _ _ .same (.cons _ _ _ (.int_eq ha1) (.cons _ _ _ .same .nil)))), .old 16 16 _ _ _ rfl rfl (.data_eq rfl) .nil, rfl⟩
  · rintro ⟨⟨m, i0, k⟩, hs, hso, hai0, hib0⟩
    have hml : m.length = l.length := hs.len
    show ABr (decide ((k : Int) < 5)) _ _
    refine ⟨fun hk => ?_, fun hk => ?_⟩
    · have hk5 : k < 5 := by simp at hk; omega
      have hwk := wrapP (i := k) (by unfold maxN; omega)
      show ∃ n, _
      refine ⟨0, ALoop.inv (ι := {p : Nat // Sorted m a p ∧ a < p ∧ p ≤ b}) (fun p => ⟨[(0, .c (.own 16)), (1, .int a), (2, .int b), (7, .int p.1), (8, .int k)], [(16, .data .int m)], 64⟩) (fun p => b - p.1) ⟨i0, hso, hai0, hib0⟩ ?_ ?_⟩
      · exact ⟨[(16, 16)], .cons _ _ _ (.c _ _ (.own _ _ rfl)) (.cons _ _ _ .same (.cons _ _ _ .same (.cons _ _ _ .same (.cons _ _ _ .same .nil)))), .old 16 16 _ _ _ rfl rfl (.data_eq rfl) .nil, rfl⟩
      · rintro ⟨i, hso, hai, hib⟩
        have hai : a < i := hai
        have hib : i ≤ b := hib
        have hw1 := wrapM (i := i) (by omega) (by omega)
        have hwp := wrapP (i := i) (by omega)
        show ABr (decide ((i : Int) < (b : Int))) _ _
        refine ⟨fun hx => ?_, fun hx => ?_⟩
        · have hlt : i < b := by simp at hx; omega
          show AOb ((0 : Int) ≤ (i : Int) ∧ (i : Int) < (m.length : Int)) _
          refine ⟨by omega, ?_⟩
          show AOb (((i : Int)).toNat < m.length) _
          refine ⟨by omega, ?_⟩
          show AOb ((0 : Int) ≤ IntKind.i64.wrap ((i : Int) - 1) ∧ IntKind.i64.wrap ((i : Int) - 1) < (m.length : Int)) _
          refine ⟨by rw [hw1]; omega, ?_⟩
          show AOb ((IntKind.i64.wrap ((i : Int) - 1)).toNat < m.length) _
          refine ⟨by rw [hw1]; omega, ?_⟩
          show ADCall _ _ _ _ _ _
          refine .mk [] _ (Less_spec (at0 m ((i : Int)).toNat) (at0 m (IntKind.i64.wrap ((i : Int) - 1)).toNat)) rfl ?_
          have e1 : (IntKind.i64.wrap ((i : Int) - 1)).toNat = i - 1 := by rw [hw1]; omega
          rw [e1]
          show ABr (!decide (at0 m i < at0 m (i - 1))) _ _
          refine ⟨fun hz => ?_, fun hz => ?_⟩
          · have hz : at0 m (i - 1) ≤ at0 m i := by simp at hz; omega
            show ARound _ _ _ _
            exact ⟨⟨i + 1, hso.snoc hz, by show a < i + 1; omega, hlt⟩, by show b - (i + 1) < b - i; omega, [(16, 16)], .cons _ _ _ (.c _ _ (.own _ _ rfl)) (.cons _ _ _ .same (.cons _ _ _ .same (.cons _ _ _ (.int_eq hwp) (.cons _ _ _ .same .nil)))), .old 16 16 _ _ _ rfl rfl (.data_eq rfl) .nil, rfl⟩
          · have hz : at0 m i < at0 m (i - 1) := by simp at hz; omega
            show ABr (decide ((i : Int) = (b : Int))) _ _
            refine ⟨fun hx => absurd hx (by simp; omega), fun _ => ?_⟩
            show ABr (decide (IntKind.i64.wrap ((b : Int) - (a : Int)) < 50)) _ _
            refine ⟨fun _ => ?_, fun _ => ?_⟩
            · skip
              show ARet _ _ _
              exact ⟨[(16, 16)], hp16 m, [.bo false], .cons _ _ _ _ .same .nil, .old 16 16 _ _ _ rfl rfl (.data_eq rfl) .nil, rfl, false, m, rfl, rfl, hs, fun h => absurd h (by decide)⟩
            · skip
              show AOb ((0 : Int) ≤ IntKind.i64.wrap ((i : Int) - 1) ∧ IntKind.i64.wrap ((i : Int) - 1) < (m.length : Int)) _
              refine ⟨by rw [hw1]; omega, ?_⟩
              show AOb ((IntKind.i64.wrap ((i : Int) - 1)).toNat < m.length) _
              refine ⟨by rw [hw1]; omega, ?_⟩
              show AOb ((0 : Int) ≤ (i : Int) ∧ (i : Int) < (m.length : Int)) _
              refine ⟨by omega, ?_⟩
              show AOb (((i : Int)).toNat < m.length) _
              refine ⟨by omega, ?_⟩
              show AOb ((0 : Int) ≤ (i : Int) ∧ (i : Int) < (m.length : Int)) _
              refine ⟨by omega, ?_⟩
              show AOb (((i : Int)).toNat < m.length) _
              refine ⟨by omega, ?_⟩
              show AOb ((0 : Int) ≤ IntKind.i64.wrap ((i : Int) - 1) ∧ IntKind.i64.wrap ((i : Int) - 1) < ((m.set ((i : Int)).toNat (at0 m (IntKind.i64.wrap ((i : Int) - 1)).toNat)).length : Int)) _
              refine ⟨by rw [List.length_set]; rw [hw1]; omega, ?_⟩
              show AOb ((IntKind.i64.wrap ((i : Int) - 1)).toNat < (m.set ((i : Int)).toNat (at0 m (IntKind.i64.wrap ((i : Int) - 1)).toNat)).length) _
              refine ⟨by rw [List.length_set]; rw [hw1]; omega, ?_⟩
              have es : ((m.set ((i : Int)).toNat (at0 m (IntKind.i64.wrap ((i : Int) - 1)).toNat))).set (IntKind.i64.wrap ((i : Int) - 1)).toNat (at0 m ((i : Int)).toNat) = swp m i (i - 1) := by rw [hw1]; rfl
              have hia : IntKind.i64.wrap ((i : Int) - (a : Int)) = ((i - a : Nat) : Int) := wrapN (by omega) (by omega)
              have hs1 : Srt l (swp m i (i - 1)) a b := hs.trans (swp_srt m i (i - 1) a b (by omega) (by omega) (by omega) (by omega) (by omega))
              have hso1 : Sorted (swp m i (i - 1)) a (i - 1) := (hso.less (by omega)).swp_out (by omega) (Nat.le_refl _) (by omega) (by omega)
              show ABr (decide (IntKind.i64.wrap ((i : Int) - (a : Int)) ≥ 2)) _ _
              refine ⟨fun hx => ?_, fun hx => ?_⟩
              · have hi2 : 2 ≤ i - a := by rw [hia] at hx; simp at hx; omega
                show ∃ n, _
                refine ⟨0, ALoop.inv (ι := {p : List Int × Nat // Ins l p.1 a b (i - 1) p.2}) (fun p => ⟨[(0, .c (.own 16)), (1, .int a), (2, .int b), (7, .int i), (8, .int k), (9, .int p.1.2)], [(16, .data .int p.1.1)], 64⟩) (fun p => p.1.2) ⟨(swp m i (i - 1), i - 1), Ins.start hs1 hso1 (by omega)⟩ ?_ ?_⟩
                · exact ⟨[(16, 16)], .cons _ _ _ (.c _ _ (.own _ _ rfl)) (.cons _ _ _ .same (.cons _ _ _ .same (.cons _ _ _ .same (.cons _ _ _ .same (.cons _ _ _ (.int_eq hw1) .nil))))), .old 16 16 _ _ _ rfl rfl (.data_eq es) .nil, rfl⟩
                · rintro ⟨⟨n, j⟩, hI⟩
                  have hnl : n.length = l.length := hI.srt.len
                  have hja : a ≤ j := hI.ja
                  have hji : j ≤ i - 1 := hI.ji
                  show ABr (decide ((j : Int) ≥ 1)) _ _
                  refine ⟨fun hx => ?_, fun hx => ?_⟩
                  · have hj1 : 1 ≤ j := by simp at hx; omega
                    have hwj := wrapM (i := j) (by omega) (by omega)
                    show AOb ((0 : Int) ≤ (j : Int) ∧ (j : Int) < (n.length : Int)) _
                    refine ⟨by omega, ?_⟩
                    show AOb (((j : Int)).toNat < n.length) _
                    refine ⟨by omega, ?_⟩
                    show AOb ((0 : Int) ≤ IntKind.i64.wrap ((j : Int) - 1) ∧ IntKind.i64.wrap ((j : Int) - 1) < (n.length : Int)) _
                    refine ⟨by rw [hwj]; omega, ?_⟩
                    show AOb ((IntKind.i64.wrap ((j : Int) - 1)).toNat < n.length) _
                    refine ⟨by rw [hwj]; omega, ?_⟩
                    show ADCall _ _ _ _ _ _
                    refine .mk [] _ (Less_spec (at0 n ((j : Int)).toNat) (at0 n (IntKind.i64.wrap ((j : Int) - 1)).toNat)) rfl ?_
                    have e2 : (IntKind.i64.wrap ((j : Int) - 1)).toNat = j - 1 := by rw [hwj]; omega
                    rw [e2]
                    show ABr (!decide (at0 n j < at0 n (j - 1))) _ _
                    refine ⟨fun hz => ?_, fun hz => ?_⟩
                    · have hz : at0 n (j - 1) ≤ at0 n j := by simp at hz; omega
                      have hd := hI.done (.inr hz)
                      rw [show i - 1 + 1 = i by omega] at hd
                      have hs2 : Srt l (n) a b := hI.srt
                      have hso2 : Sorted (n) a i := hd
                      have hbi : IntKind.i64.wrap ((b : Int) - (i : Int)) = ((b - i : Nat) : Int) := wrapN (by omega) (by omega)
                      show ABr (decide (IntKind.i64.wrap ((b : Int) - (i : Int)) ≥ 2)) _ _
                      refine ⟨fun hx => ?_, fun hx => ?_⟩
                      · skip
                        show ∃ n, _
                        refine ⟨0, ALoop.inv (ι := {p : List Int × Nat // Srt (n) p.1 i b ∧ i < p.2 ∧ p.2 ≤ b}) (fun p => ⟨[(0, .c (.own 16)), (1, .int a), (2, .int b), (7, .int i), (8, .int k), (10, .int p.1.2)], [(16, .data .int p.1.1)], 64⟩) (fun p => b - p.1.2) ⟨(n, i + 1), Srt.refl _ _ _, Nat.lt_succ_self i, hlt⟩ ?_ ?_⟩
                        · exact ⟨[(16, 16)], .cons _ _ _ (.c _ _ (.own _ _ rfl)) (.cons _ _ _ .same (.cons _ _ _ .same (.cons _ _ _ .same (.cons _ _ _ .same (.cons _ _ _ (.int_eq hwp) .nil))))), .old 16 16 _ _ _ rfl rfl (.data_eq rfl) .nil, rfl⟩
                        · rintro ⟨⟨n, j⟩, ht, hij, hjb⟩
                          have hij : i < j := hij
                          have hjb : j ≤ b := hjb
                          have hnl : n.length = l.length := ht.len.trans hs2.len
                          have hwj := wrapM (i := j) (by omega) (by omega)
                          have hwq := wrapP (i := j) (by omega)
                          show ABr (decide ((j : Int) < (b : Int))) _ _
                          refine ⟨fun hx => ?_, fun hx => ?_⟩
                          · have hjlt : j < b := by simp at hx; omega
                            show AOb ((0 : Int) ≤ (j : Int) ∧ (j : Int) < (n.length : Int)) _
                            refine ⟨by omega, ?_⟩
                            show AOb (((j : Int)).toNat < n.length) _
                            refine ⟨by omega, ?_⟩
                            show AOb ((0 : Int) ≤ IntKind.i64.wrap ((j : Int) - 1) ∧ IntKind.i64.wrap ((j : Int) - 1) < (n.length : Int)) _
                            refine ⟨by rw [hwj]; omega, ?_⟩
                            show AOb ((IntKind.i64.wrap ((j : Int) - 1)).toNat < n.length) _
                            refine ⟨by rw [hwj]; omega, ?_⟩
                            show ADCall _ _ _ _ _ _
                            refine .mk [] _ (Less_spec (at0 n ((j : Int)).toNat) (at0 n (IntKind.i64.wrap ((j : Int) - 1)).toNat)) rfl ?_
                            show ABr _ _ _
                            refine ⟨fun _ => ?_, fun _ => ?_⟩
                            · skip
                              show ARound _ _ _ _
                              exact ⟨⟨(n, i, k + 1), hs2.trans (ht.widen (by omega) (Nat.le_refl _)), hso2.off ht (Nat.le_refl _), hai, hib⟩, by show 5 - (k + 1) < 5 - k; omega, [(16, 16)], .cons _ _ _ (.c _ _ (.own _ _ rfl)) (.cons _ _ _ .same (.cons _ _ _ .same (.cons _ _ _ .same (.cons _ _ _ (.int_eq hwk) .nil)))), .old 16 16 _ _ _ rfl rfl (.data_eq rfl) .nil, rfl⟩
                            · skip
                              show AOb ((0 : Int) ≤ IntKind.i64.wrap ((j : Int) - 1) ∧ IntKind.i64.wrap ((j : Int) - 1) < (n.length : Int)) _
                              refine ⟨by rw [hwj]; omega, ?_⟩
                              show AOb ((IntKind.i64.wrap ((j : Int) - 1)).toNat < n.length) _
                              refine ⟨by rw [hwj]; omega, ?_⟩
                              show AOb ((0 : Int) ≤ (j : Int) ∧ (j : Int) < (n.length : Int)) _
                              refine ⟨by omega, ?_⟩
                              show AOb (((j : Int)).toNat < n.length) _
                              refine ⟨by omega, ?_⟩
                              show AOb ((0 : Int) ≤ (j : Int) ∧ (j : Int) < (n.length : Int)) _
                              refine ⟨by omega, ?_⟩
                              show AOb (((j : Int)).toNat < n.length) _
                              refine ⟨by omega, ?_⟩
                              show AOb ((0 : Int) ≤ IntKind.i64.wrap ((j : Int) - 1) ∧ IntKind.i64.wrap ((j : Int) - 1) < ((n.set ((j : Int)).toNat (at0 n (IntKind.i64.wrap ((j : Int) - 1)).toNat)).length : Int)) _
                              refine ⟨by rw [List.length_set]; rw [hwj]; omega, ?_⟩
                              show AOb ((IntKind.i64.wrap ((j : Int) - 1)).toNat < (n.set ((j : Int)).toNat (at0 n (IntKind.i64.wrap ((j : Int) - 1)).toNat)).length) _
                              refine ⟨by rw [List.length_set]; rw [hwj]; omega, ?_⟩
                              have es : ((n.set ((j : Int)).toNat (at0 n (IntKind.i64.wrap ((j : Int) - 1)).toNat))).set (IntKind.i64.wrap ((j : Int) - 1)).toNat (at0 n ((j : Int)).toNat) = swp n j (j - 1) := by rw [hwj]; rfl
                              show ARound _ _ _ _
                              exact ⟨⟨(swp n j (j - 1), j + 1), ht.trans (swp_srt n j (j - 1) i b (by omega) (by omega) (by omega) (by omega) (by omega)), by show i < j + 1; omega, by show j + 1 ≤ b; omega⟩, by show b - (j + 1) < b - j; omega, [(16, 16)], .cons _ _ _ (.c _ _ (.own _ _ rfl)) (.cons _ _ _ .same (.cons _ _ _ .same (.cons _ _ _ .same (.cons _ _ _ .same (.cons _ _ _ (.int_eq hwq) .nil))))), .old 16 16 _ _ _ rfl rfl (.data_eq es) .nil, rfl⟩
                          · skip
                            show ARound _ _ _ _
                            exact ⟨⟨(n, i, k + 1), hs2.trans (ht.widen (by omega) (Nat.le_refl _)), hso2.off ht (Nat.le_refl _), hai, hib⟩, by show 5 - (k + 1) < 5 - k; omega, [(16, 16)], .cons _ _ _ (.c _ _ (.own _ _ rfl)) (.cons _ _ _ .same (.cons _ _ _ .same (.cons _ _ _ .same (.cons _ _ _ (.int_eq hwk) .nil)))), .old 16 16 _ _ _ rfl rfl (.data_eq rfl) .nil, rfl⟩
                      · skip
                        show ARound _ _ _ _
                        exact ⟨⟨(n, i, k + 1), hs2, hso2, hai, hib⟩, by show 5 - (k + 1) < 5 - k; omega, [(16, 16)], .cons _ _ _ (.c _ _ (.own _ _ rfl)) (.cons _ _ _ .same (.cons _ _ _ .same (.cons _ _ _ .same (.cons _ _ _ (.int_eq hwk) .nil)))), .old 16 16 _ _ _ rfl rfl (.data_eq rfl) .nil, rfl⟩
                    · have hz : at0 n j < at0 n (j - 1) := by simp at hz; omega
                      have hjlt : a < j := Nat.lt_of_le_of_ne hja fun e => by
                        have this : at0 n (a - 1) ≤ at0 n j := hlow.srt hI.srt (by omega) hbl (by omega) j (by omega) (by omega)
                        rw [e] at this
                        omega
                      show AOb ((0 : Int) ≤ IntKind.i64.wrap ((j : Int) - 1) ∧ IntKind.i64.wrap ((j : Int) - 1) < (n.length : Int)) _
                      refine ⟨by rw [hwj]; omega, ?_⟩
                      show AOb ((IntKind.i64.wrap ((j : Int) - 1)).toNat < n.length) _
                      refine ⟨by rw [hwj]; omega, ?_⟩
                      show AOb ((0 : Int) ≤ (j : Int) ∧ (j : Int) < (n.length : Int)) _
                      refine ⟨by omega, ?_⟩
                      show AOb (((j : Int)).toNat < n.length) _
                      refine ⟨by omega, ?_⟩
                      show AOb ((0 : Int) ≤ (j : Int) ∧ (j : Int) < (n.length : Int)) _
                      refine ⟨by omega, ?_⟩
                      show AOb (((j : Int)).toNat < n.length) _
                      refine ⟨by omega, ?_⟩
                      show AOb ((0 : Int) ≤ IntKind.i64.wrap ((j : Int) - 1) ∧ IntKind.i64.wrap ((j : Int) - 1) < ((n.set ((j : Int)).toNat (at0 n (IntKind.i64.wrap ((j : Int) - 1)).toNat)).length : Int)) _
                      refine ⟨by rw [List.length_set]; rw [hwj]; omega, ?_⟩
                      show AOb ((IntKind.i64.wrap ((j : Int) - 1)).toNat < (n.set ((j : Int)).toNat (at0 n (IntKind.i64.wrap ((j : Int) - 1)).toNat)).length) _
                      refine ⟨by rw [List.length_set]; rw [hwj]; omega, ?_⟩
                      have es : ((n.set ((j : Int)).toNat (at0 n (IntKind.i64.wrap ((j : Int) - 1)).toNat))).set (IntKind.i64.wrap ((j : Int) - 1)).toNat (at0 n ((j : Int)).toNat) = swp n j (j - 1) := by rw [hwj]; rfl
                      show ARound _ _ _ _
                      exact ⟨⟨(swp n j (j - 1), j - 1), hI.step hjlt (by omega) hbl hz⟩, by show j - 1 < j; omega, [(16, 16)], .cons _ _ _ (.c _ _ (.own _ _ rfl)) (.cons _ _ _ .same (.cons _ _ _ .same (.cons _ _ _ .same (.cons _ _ _ .same (.cons _ _ _ (.int_eq hwj) .nil))))), .old 16 16 _ _ _ rfl rfl (.data_eq es) .nil, rfl⟩
                  · have hj0 : j = 0 := by simp at hx; omega
                    have hd := hI.done (.inl (by omega))
                    rw [show i - 1 + 1 = i by omega] at hd
                    have hs2 : Srt l (n) a b := hI.srt
                    have hso2 : Sorted (n) a i := hd
                    have hbi : IntKind.i64.wrap ((b : Int) - (i : Int)) = ((b - i : Nat) : Int) := wrapN (by omega) (by omega)
                    show ABr (decide (IntKind.i64.wrap ((b : Int) - (i : Int)) ≥ 2)) _ _
                    refine ⟨fun hx => ?_, fun hx => ?_⟩
                    · skip
                      show ∃ n, _
                      refine ⟨0, ALoop.inv (ι := {p : List Int × Nat // Srt (n) p.1 i b ∧ i < p.2 ∧ p.2 ≤ b}) (fun p => ⟨[(0, .c (.own 16)), (1, .int a), (2, .int b), (7, .int i), (8, .int k), (10, .int p.1.2)], [(16, .data .int p.1.1)], 64⟩) (fun p => b - p.1.2) ⟨(n, i + 1), Srt.refl _ _ _, Nat.lt_succ_self i, hlt⟩ ?_ ?_⟩
                      · exact ⟨[(16, 16)], .cons _ _ _ (.c _ _ (.own _ _ rfl)) (.cons _ _ _ .same (.cons _ _ _ .same (.cons _ _ _ .same (.cons _ _ _ .same (.cons _ _ _ (.int_eq hwp) .nil))))), .old 16 16 _ _ _ rfl rfl (.data_eq rfl) .nil, rfl⟩
                      · rintro ⟨⟨n, j⟩, ht, hij, hjb⟩
                        have hij : i < j := hij
                        have hjb : j ≤ b := hjb
                        have hnl : n.length = l.length := ht.len.trans hs2.len
                        have hwj := wrapM (i := j) (by omega) (by omega)
                        have hwq := wrapP (i := j) (by omega)
                        show ABr (decide ((j : Int) < (b : Int))) _ _
                        refine ⟨fun hx => ?_, fun hx => ?_⟩
                        · have hjlt : j < b := by simp at hx; omega
                          show AOb ((0 : Int) ≤ (j : Int) ∧ (j : Int) < (n.length : Int)) _
                          refine ⟨by omega, ?_⟩
                          show AOb (((j : Int)).toNat < n.length) _
                          refine ⟨by omega, ?_⟩
                          show AOb ((0 : Int) ≤ IntKind.i64.wrap ((j : Int) - 1) ∧ IntKind.i64.wrap ((j : Int) - 1) < (n.length : Int)) _
                          refine ⟨by rw [hwj]; omega, ?_⟩
                          show AOb ((IntKind.i64.wrap ((j : Int) - 1)).toNat < n.length) _
                          refine ⟨by rw [hwj]; omega, ?_⟩
                          show ADCall _ _ _ _ _ _
                          refine .mk [] _ (Less_spec (at0 n ((j : Int)).toNat) (at0 n (IntKind.i64.wrap ((j : Int) - 1)).toNat)) rfl ?_
                          show ABr _ _ _
                          refine ⟨fun _ => ?_, fun _ => ?_⟩
                          · skip
                            show ARound _ _ _ _
                            exact ⟨⟨(n, i, k + 1), hs2.trans (ht.widen (by omega) (Nat.le_refl _)), hso2.off ht (Nat.le_refl _), hai, hib⟩, by show 5 - (k + 1) < 5 - k; omega, [(16, 16)], .cons _ _ _ (.c _ _ (.own _ _ rfl)) (.cons _ _ _ .same (.cons _ _ _ .same (.cons _ _ _ .same (.cons _ _ _ (.int_eq hwk) .nil)))), .old 16 16 _ _ _ rfl rfl (.data_eq rfl) .nil, rfl⟩
                          · skip
                            show AOb ((0 : Int) ≤ IntKind.i64.wrap ((j : Int) - 1) ∧ IntKind.i64.wrap ((j : Int) - 1) < (n.length : Int)) _
                            refine ⟨by rw [hwj]; omega, ?_⟩
                            show AOb ((IntKind.i64.wrap ((j : Int) - 1)).toNat < n.length) _
                            refine ⟨by rw [hwj]; omega, ?_⟩
                            show AOb ((0 : Int) ≤ (j : Int) ∧ (j : Int) < (n.length : Int)) _
                            refine ⟨by omega, ?_⟩
                            show AOb (((j : Int)).toNat < n.length) _
                            refine ⟨by omega, ?_⟩
                            show AOb ((0 : Int) ≤ (j : Int) ∧ (j : Int) < (n.length : Int)) _
                            refine ⟨by omega, ?_⟩
                            show AOb (((j : Int)).toNat < n.length) _
                            refine ⟨by omega, ?_⟩
                            show AOb ((0 : Int) ≤ IntKind.i64.wrap ((j : Int) - 1) ∧ IntKind.i64.wrap ((j : Int) - 1) < ((n.set ((j : Int)).toNat (at0 n (IntKind.i64.wrap ((j : Int) - 1)).toNat)).length : Int)) _
                            refine ⟨by rw [List.length_set]; rw [hwj]; omega, ?_⟩
                            show AOb ((IntKind.i64.wrap ((j : Int) - 1)).toNat < (n.set ((j : Int)).toNat (at0 n (IntKind.i64.wrap ((j : Int) - 1)).toNat)).length) _
                            refine ⟨by rw [List.length_set]; rw [hwj]; omega, ?_⟩
                            have es : ((n.set ((j : Int)).toNat (at0 n (IntKind.i64.wrap ((j : Int) - 1)).toNat))).set (IntKind.i64.wrap ((j : Int) - 1)).toNat (at0 n ((j : Int)).toNat) = swp n j (j - 1) := by rw [hwj]; rfl
                            show ARound _ _ _ _
                            exact ⟨⟨(swp n j (j - 1), j + 1), ht.trans (swp_srt n j (j - 1) i b (by omega) (by omega) (by omega) (by omega) (by omega)), by show i < j + 1; omega, by show j + 1 ≤ b; omega⟩, by show b - (j + 1) < b - j; omega, [(16, 16)], .cons _ _ _ (.c _ _ (.own _ _ rfl)) (.cons _ _ _ .same (.cons _ _ _ .same (.cons _ _ _ .same (.cons _ _ _ .same (.cons _ _ _ (.int_eq hwq) .nil))))), .old 16 16 _ _ _ rfl rfl (.data_eq es) .nil, rfl⟩
                        · skip
                          show ARound _ _ _ _
                          exact ⟨⟨(n, i, k + 1), hs2.trans (ht.widen (by omega) (Nat.le_refl _)), hso2.off ht (Nat.le_refl _), hai, hib⟩, by show 5 - (k + 1) < 5 - k; omega, [(16, 16)], .cons _ _ _ (.c _ _ (.own _ _ rfl)) (.cons _ _ _ .same (.cons _ _ _ .same (.cons _ _ _ .same (.cons _ _ _ (.int_eq hwk) .nil)))), .old 16 16 _ _ _ rfl rfl (.data_eq rfl) .nil, rfl⟩
                    · skip
                      show ARound _ _ _ _
                      exact ⟨⟨(n, i, k + 1), hs2, hso2, hai, hib⟩, by show 5 - (k + 1) < 5 - k; omega, [(16, 16)], .cons _ _ _ (.c _ _ (.own _ _ rfl)) (.cons _ _ _ .same (.cons _ _ _ .same (.cons _ _ _ .same (.cons _ _ _ (.int_eq hwk) .nil)))), .old 16 16 _ _ _ rfl rfl (.data_eq rfl) .nil, rfl⟩
              · have hi1 : i = a + 1 := by rw [hia] at hx; simp at hx; omega
                have hs2 : Srt l (swp m i (i - 1)) a b := hs1
                have hso2 : Sorted (swp m i (i - 1)) a i := (by rw [hi1]; exact Sorted.one _ _)
                have hbi : IntKind.i64.wrap ((b : Int) - (i : Int)) = ((b - i : Nat) : Int) := wrapN (by omega) (by omega)
                show ABr (decide (IntKind.i64.wrap ((b : Int) - (i : Int)) ≥ 2)) _ _
                refine ⟨fun hx => ?_, fun hx => ?_⟩
                · skip
                  show ∃ n, _
                  refine ⟨0, ALoop.inv (ι := {p : List Int × Nat // Srt (swp m i (i - 1)) p.1 i b ∧ i < p.2 ∧ p.2 ≤ b}) (fun p => ⟨[(0, .c (.own 16)), (1, .int a), (2, .int b), (7, .int i), (8, .int k), (10, .int p.1.2)], [(16, .data .int p.1.1)], 64⟩) (fun p => b - p.1.2) ⟨(swp m i (i - 1), i + 1), Srt.refl _ _ _, Nat.lt_succ_self i, hlt⟩ ?_ ?_⟩
                  · exact ⟨[(16, 16)], .cons _ _ _ (.c _ _ (.own _ _ rfl)) (.cons _ _ _ .same (.cons _ _ _ .same (.cons _ _ _ .same (.cons _ _ _ .same (.cons _ _ _ (.int_eq hwp) .nil))))), .old 16 16 _ _ _ rfl rfl (.data_eq es) .nil, rfl⟩
                  · rintro ⟨⟨n, j⟩, ht, hij, hjb⟩
                    have hij : i < j := hij
                    have hjb : j ≤ b := hjb
                    have hnl : n.length = l.length := ht.len.trans hs2.len
                    have hwj := wrapM (i := j) (by omega) (by omega)
                    have hwq := wrapP (i := j) (by omega)
                    show ABr (decide ((j : Int) < (b : Int))) _ _
                    refine ⟨fun hx => ?_, fun hx => ?_⟩
                    · have hjlt : j < b := by simp at hx; omega
                      show AOb ((0 : Int) ≤ (j : Int) ∧ (j : Int) < (n.length : Int)) _
                      refine ⟨by omega, ?_⟩
                      show AOb (((j : Int)).toNat < n.length) _
                      refine ⟨by omega, ?_⟩
                      show AOb ((0 : Int) ≤ IntKind.i64.wrap ((j : Int) - 1) ∧ IntKind.i64.wrap ((j : Int) - 1) < (n.length : Int)) _
                      refine ⟨by rw [hwj]; omega, ?_⟩
                      show AOb ((IntKind.i64.wrap ((j : Int) - 1)).toNat < n.length) _
                      refine ⟨by rw [hwj]; omega, ?_⟩
                      show ADCall _ _ _ _ _ _
                      refine .mk [] _ (Less_spec (at0 n ((j : Int)).toNat) (at0 n (IntKind.i64.wrap ((j : Int) - 1)).toNat)) rfl ?_
                      show ABr _ _ _
                      refine ⟨fun _ => ?_, fun _ => ?_⟩
                      · skip
                        show ARound _ _ _ _
                        exact ⟨⟨(n, i, k + 1), hs2.trans (ht.widen (by omega) (Nat.le_refl _)), hso2.off ht (Nat.le_refl _), hai, hib⟩, by show 5 - (k + 1) < 5 - k; omega, [(16, 16)], .cons _ _ _ (.c _ _ (.own _ _ rfl)) (.cons _ _ _ .same (.cons _ _ _ .same (.cons _ _ _ .same (.cons _ _ _ (.int_eq hwk) .nil)))), .old 16 16 _ _ _ rfl rfl (.data_eq rfl) .nil, rfl⟩
                      · skip
                        show AOb ((0 : Int) ≤ IntKind.i64.wrap ((j : Int) - 1) ∧ IntKind.i64.wrap ((j : Int) - 1) < (n.length : Int)) _
                        refine ⟨by rw [hwj]; omega, ?_⟩
                        show AOb ((IntKind.i64.wrap ((j : Int) - 1)).toNat < n.length) _
                        refine ⟨by rw [hwj]; omega, ?_⟩
                        show AOb ((0 : Int) ≤ (j : Int) ∧ (j : Int) < (n.length : Int)) _
                        refine ⟨by omega, ?_⟩
                        show AOb (((j : Int)).toNat < n.length) _
                        refine ⟨by omega, ?_⟩
                        show AOb ((0 : Int) ≤ (j : Int) ∧ (j : Int) < (n.length : Int)) _
                        refine ⟨by omega, ?_⟩
                        show AOb (((j : Int)).toNat < n.length) _
                        refine ⟨by omega, ?_⟩
                        show AOb ((0 : Int) ≤ IntKind.i64.wrap ((j : Int) - 1) ∧ IntKind.i64.wrap ((j : Int) - 1) < ((n.set ((j : Int)).toNat (at0 n (IntKind.i64.wrap ((j : Int) - 1)).toNat)).length : Int)) _
                        refine ⟨by rw [List.length_set]; rw [hwj]; omega, ?_⟩
                        show AOb ((IntKind.i64.wrap ((j : Int) - 1)).toNat < (n.set ((j : Int)).toNat (at0 n (IntKind.i64.wrap ((j : Int) - 1)).toNat)).length) _
                        refine ⟨by rw [List.length_set]; rw [hwj]; omega, ?_⟩
                        have es : ((n.set ((j : Int)).toNat (at0 n (IntKind.i64.wrap ((j : Int) - 1)).toNat))).set (IntKind.i64.wrap ((j : Int) - 1)).toNat (at0 n ((j : Int)).toNat) = swp n j (j - 1) := by rw [hwj]; rfl
                        show ARound _ _ _ _
                        exact ⟨⟨(swp n j (j - 1), j + 1), ht.trans (swp_srt n j (j - 1) i b (by omega) (by omega) (by omega) (by omega) (by omega)), by show i < j + 1; omega, by show j + 1 ≤ b; omega⟩, by show b - (j + 1) < b - j; omega, [(16, 16)], .cons _ _ _ (.c _ _ (.own _ _ rfl)) (.cons _ _ _ .same (.cons _ _ _ .same (.cons _ _ _ .same (.cons _ _ _ .same (.cons _ _ _ (.int_eq hwq) .nil))))), .old 16 16 _ _ _ rfl rfl (.data_eq es) .nil, rfl⟩
                    · skip
                      show ARound _ _ _ _
                      exact ⟨⟨(n, i, k + 1), hs2.trans (ht.widen (by omega) (Nat.le_refl _)), hso2.off ht (Nat.le_refl _), hai, hib⟩, by show 5 - (k + 1) < 5 - k; omega, [(16, 16)], .cons _ _ _ (.c _ _ (.own _ _ rfl)) (.cons _ _ _ .same (.cons _ _ _ .same (.cons _ _ _ .same (.cons _ _ _ (.int_eq hwk) .nil)))), .old 16 16 _ _ _ rfl rfl (.data_eq rfl) .nil, rfl⟩
                · skip
                  show ARound _ _ _ _
                  exact ⟨⟨(swp m i (i - 1), i, k + 1), hs2, hso2, hai, hib⟩, by show 5 - (k + 1) < 5 - k; omega, [(16, 16)], .cons _ _ _ (.c _ _ (.own _ _ rfl)) (.cons _ _ _ .same (.cons _ _ _ .same (.cons _ _ _ .same (.cons _ _ _ (.int_eq hwk) .nil)))), .old 16 16 _ _ _ rfl rfl (.data_eq es) .nil, rfl⟩
        · have hib : i = b := by simp at hx; omega
          show ABr _ _ _
          refine ⟨fun hx => absurd hx (by decide), fun _ => ?_⟩
          show ABr (decide ((i : Int) = (b : Int))) _ _
          refine ⟨fun _ => ?_, fun hx => absurd hx (by simp; omega)⟩
          show ARet _ _ _
          exact ⟨[(16, 16)], hp16 m, [.bo true], .cons _ _ _ _ .same .nil, .old 16 16 _ _ _ rfl rfl (.data_eq rfl) .nil, rfl, true, m, rfl, rfl, hs, fun _ => hib ▸ hso⟩
    · skip
      show ARet _ _ _
      exact ⟨[(16, 16)], hp16 m, [.bo false], .cons _ _ _ _ .same .nil, .old 16 16 _ _ _ rfl rfl (.data_eq rfl) .nil, rfl, false, m, rfl, rfl, hs, fun h => absurd h (by decide)⟩
end Go.Abs
