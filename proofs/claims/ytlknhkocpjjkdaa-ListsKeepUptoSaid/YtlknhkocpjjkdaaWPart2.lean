/- Walks: the library's sort: parting, and the insertion of a few. -/
import Derived.Test.YtlknhkocpjjkdaaWPdqLaw
import Derived.Test.YtlknhkocpjjkdaaWRev
set_option linter.all false
set_option linter.unusedVariables false
set_option linter.unusedSimpArgs false
namespace Go.Abs
open Go.Proofs Go.Proofs.Ytlknhkocpjjkdaa
set_option maxRecDepth 8000

def EqQ (l : List Int) (a b q : Nat) : Heap → TV → Prop := fun H r => ∃ (mid : Nat) (l' : List Int), H = hp16 l' ∧ r = .int mid ∧ EqPart l l' a b (at0 l q) mid
def PartQ (l : List Int) (a b : Nat) : Heap → TV → Prop := fun H r => ∃ (mid : Nat) (x : Bool) (l' : List Int), H = hp16 l' ∧ r = .tup [.int mid, .bo x] ∧ Part2 l l' a b mid

set_option maxHeartbeats 2000000 in
theorem partEq_spec (l : List Int) (a b q : Nat) (haq : a ≤ q) (hqb : q < b) (hbl : b ≤ l.length) : Spec X 62 (hp16 l) [.c (.own 16), .int a, .int b, .int q] (EqQ l a b q) := by
  refine spec_go X_ok Try.f62 (by kernel_rfl) (by kernel_rfl) (by kernel_rfl) fun hb hH => ⟨rfl, ?_⟩
  have hmax : l.length ≤ maxN := hH 16 .int l rfl
  have hmx : l.length ≤ 140737488355328 := hmax
  have hp0 := Pt.start (l := l) haq hqb hbl
  have hi0 : IntKind.i64.wrap ((a : Int) + 1) = ((a + 1 : Nat) : Int) := wrapN (by omega) (by omega)
  have hj0 : IntKind.i64.wrap ((b : Int) - 1) = ((b - 1 : Nat) : Int) := wrapN (by omega) (by omega)
  show AOb ((0 : Int) ≤ (q : Int) ∧ (q : Int) < (l.length : Int)) _
  refine ⟨by omega, ?_⟩
  show AOb (((q : Int)).toNat < l.length) _
  refine ⟨by omega, ?_⟩
  show AOb ((0 : Int) ≤ (a : Int) ∧ (a : Int) < (l.length : Int)) _
  refine ⟨by omega, ?_⟩
  show AOb (((a : Int)).toNat < l.length) _
  refine ⟨by omega, ?_⟩
  show AOb ((0 : Int) ≤ (a : Int) ∧ (a : Int) < (l.length : Int)) _
  refine ⟨by omega, ?_⟩
  show AOb (((a : Int)).toNat < l.length) _
  refine ⟨by omega, ?_⟩
  show AOb ((0 : Int) ≤ (q : Int) ∧ (q : Int) < ((l.set ((a : Int)).toNat (at0 l ((q : Int)).toNat)).length : Int)) _
  refine ⟨by rw [List.length_set]; omega, ?_⟩
  show AOb (((q : Int)).toNat < (l.set ((a : Int)).toNat (at0 l ((q : Int)).toNat)).length) _
  refine ⟨by rw [List.length_set]; omega, ?_⟩
  have es : ((l.set ((a : Int)).toNat (at0 l ((q : Int)).toNat))).set ((q : Int)).toNat (at0 l ((a : Int)).toNat) = swp l a q := by rfl
  show ∃ n, _
  refine ⟨0, ALoop.inv (ι := {p : List Int × Nat × Nat // Pt l p.1 a b (at0 l q) p.2.1 p.2.2}) (fun p => ⟨[(0, .c (.own 16)), (1, .int a), (9, .int p.1.2.1), (10, .int p.1.2.2)], [(16, .data .int p.1.1)], 64⟩) (fun p => p.1.2.2 + 1 - p.1.2.1) ⟨(swp l a q, a + 1, b - 1), hp0⟩ ?_ ?_⟩
  · exact ⟨[(16, 16)], .cons _ _ _ (.c _ _ (.own _ _ rfl)) (.cons _ _ _ .same (.cons _ _ _ (.int_eq hi0) (.cons _ _ _ (.int_eq hj0) .nil))), .old 16 16 _ _ _ rfl rfl (.data_eq es) .nil, rfl⟩
  · rintro ⟨⟨m0, i0, j0⟩, hP⟩
    have hle0 : i0 ≤ j0 + 1 := hP.ij
    show ∃ n, _
    refine ⟨0, ALoop.inv (ι := {p : List Int × Nat × Nat // Pt l p.1 a b (at0 l q) p.2.1 p.2.2 ∧ i0 ≤ p.2.1 ∧ p.2.2 ≤ j0}) (fun p => ⟨[(0, .c (.own 16)), (1, .int a), (9, .int p.1.2.1), (10, .int p.1.2.2)], [(16, .data .int p.1.1)], 64⟩) (fun p => p.1.2.2 + 1 - p.1.2.1) ⟨(m0, i0, j0), hP, Nat.le_refl _, Nat.le_refl _⟩ ?_ ?_⟩
    · exact ⟨[(16, 16)], .cons _ _ _ (.c _ _ (.own _ _ rfl)) (.cons _ _ _ .same (.cons _ _ _ .same (.cons _ _ _ .same .nil))), .old 16 16 _ _ _ rfl rfl (.data_eq rfl) .nil, rfl⟩
    · rintro ⟨⟨m, i, j⟩, hP, hi0, hj0⟩
      have hi0 : i0 ≤ i := hi0
      have hj0 : j ≤ j0 := hj0
      have hml : m.length = l.length := hP.srt.len
      have hai : a < i := hP.ai
      have hij : i ≤ j + 1 := hP.ij
      have hjb : j < b := hP.jb
      have hap : at0 m a = at0 l q := hP.piv
      have hwi := wrapP (i := i) (by omega)
      show ABr (decide ((i : Int) ≤ (j : Int))) _ _
      refine ⟨fun hx => ?_, fun hx => ?_⟩
      · have hle : i ≤ j := by simp at hx; omega
        show AOb ((0 : Int) ≤ (a : Int) ∧ (a : Int) < (m.length : Int)) _
        refine ⟨by omega, ?_⟩
        show AOb (((a : Int)).toNat < m.length) _
        refine ⟨by omega, ?_⟩
        show AOb ((0 : Int) ≤ (i : Int) ∧ (i : Int) < (m.length : Int)) _
        refine ⟨by omega, ?_⟩
        show AOb (((i : Int)).toNat < m.length) _
        refine ⟨by omega, ?_⟩
        show ADCall _ _ _ _ _ _
        refine .mk [] _ (Less_spec (at0 m ((a : Int)).toNat) (at0 m ((i : Int)).toNat)) rfl ?_
        show ABr (!decide (at0 m a < at0 m i)) _ _
        refine ⟨fun hz => ?_, fun hz => ?_⟩
        · have hy : at0 m i ≤ at0 l q := by simp at hz; omega
          show ARound _ _ _ _
          exact ⟨⟨(m, i + 1, j), hP.up hle hy, by show i0 ≤ i + 1; omega, hj0⟩, by show j + 1 - (i + 1) < j + 1 - i; omega, [(16, 16)], .cons _ _ _ (.c _ _ (.own _ _ rfl)) (.cons _ _ _ .same (.cons _ _ _ (.int_eq hwi) (.cons _ _ _ .same .nil))), .old 16 16 _ _ _ rfl rfl (.data_eq rfl) .nil, rfl⟩
        · have hn : at0 l q ≤ at0 m i ∧ at0 l q < at0 m i := by simp at hz; omega
          show ∃ n, _
          refine ⟨0, ALoop.inv (ι := {p : Nat // Pt l m a b (at0 l q) i p ∧ p ≤ j}) (fun p => ⟨[(0, .c (.own 16)), (1, .int a), (9, .int i), (10, .int p.1)], [(16, .data .int m)], 64⟩) (fun p => p.1) ⟨j, hP, Nat.le_refl _⟩ ?_ ?_⟩
          · exact ⟨[(16, 16)], .cons _ _ _ (.c _ _ (.own _ _ rfl)) (.cons _ _ _ .same (.cons _ _ _ .same (.cons _ _ _ .same .nil))), .old 16 16 _ _ _ rfl rfl (.data_eq rfl) .nil, rfl⟩
          · rintro ⟨k, hP, hkj⟩
            have hml : m.length = l.length := hP.srt.len
            have hai : a < i := hP.ai
            have hij : i ≤ k + 1 := hP.ij
            have hjb : k < b := hP.jb
            have hap : at0 m a = at0 l q := hP.piv
            have hwi := wrapP (i := i) (by omega)
            show ABr (decide ((i : Int) ≤ (k : Int))) _ _
            refine ⟨fun hx => ?_, fun hx => ?_⟩
            · have hle : i ≤ k := by simp at hx; omega
              have hwk := wrapM (i := k) (by omega) (by omega)
              show AOb ((0 : Int) ≤ (a : Int) ∧ (a : Int) < (m.length : Int)) _
              refine ⟨by omega, ?_⟩
              show AOb (((a : Int)).toNat < m.length) _
              refine ⟨by omega, ?_⟩
              show AOb ((0 : Int) ≤ (k : Int) ∧ (k : Int) < (m.length : Int)) _
              refine ⟨by omega, ?_⟩
              show AOb (((k : Int)).toNat < m.length) _
              refine ⟨by omega, ?_⟩
              show ADCall _ _ _ _ _ _
              refine .mk [] _ (Less_spec (at0 m ((a : Int)).toNat) (at0 m ((k : Int)).toNat)) rfl ?_
              show ABr (decide (at0 m a < at0 m k)) _ _
              refine ⟨fun hz => ?_, fun hz => ?_⟩
              · have hy : at0 l q ≤ at0 m k := by simp at hz; omega
                show ARound _ _ _ _
                exact ⟨⟨k - 1, hP.down hle hy, by show k - 1 ≤ j; omega⟩, by show k - 1 < k; omega, [(16, 16)], .cons _ _ _ (.c _ _ (.own _ _ rfl)) (.cons _ _ _ .same (.cons _ _ _ .same (.cons _ _ _ (.int_eq hwk) .nil))), .old 16 16 _ _ _ rfl rfl (.data_eq rfl) .nil, rfl⟩
              · have hk : at0 m k ≤ at0 l q ∧ at0 m k ≤ at0 l q := by simp at hz; omega
                have hlt : i < k := Nat.lt_of_le_of_ne hle (fun e => by rw [e] at hn; omega)
                show ABr (decide ((i : Int) > (k : Int))) _ _
                refine ⟨fun hx => absurd hx (by simp; omega), fun _ => ?_⟩
                show AOb ((0 : Int) ≤ (k : Int) ∧ (k : Int) < (m.length : Int)) _
                refine ⟨by omega, ?_⟩
                show AOb (((k : Int)).toNat < m.length) _
                refine ⟨by omega, ?_⟩
                show AOb ((0 : Int) ≤ (i : Int) ∧ (i : Int) < (m.length : Int)) _
                refine ⟨by omega, ?_⟩
                show AOb (((i : Int)).toNat < m.length) _
                refine ⟨by omega, ?_⟩
                show AOb ((0 : Int) ≤ (i : Int) ∧ (i : Int) < (m.length : Int)) _
                refine ⟨by omega, ?_⟩
                show AOb (((i : Int)).toNat < m.length) _
                refine ⟨by omega, ?_⟩
                show AOb ((0 : Int) ≤ (k : Int) ∧ (k : Int) < ((m.set ((i : Int)).toNat (at0 m ((k : Int)).toNat)).length : Int)) _
                refine ⟨by rw [List.length_set]; omega, ?_⟩
                show AOb (((k : Int)).toNat < (m.set ((i : Int)).toNat (at0 m ((k : Int)).toNat)).length) _
                refine ⟨by rw [List.length_set]; omega, ?_⟩
                have es : ((m.set ((i : Int)).toNat (at0 m ((k : Int)).toNat))).set ((k : Int)).toNat (at0 m ((i : Int)).toNat) = swp m i k := by rfl
                show ARound _ _ _ _
                exact ⟨⟨(swp m i k, i + 1, k - 1), hP.swap hbl hlt hn.1 hk.1⟩, by show k - 1 + 1 - (i + 1) < j0 + 1 - i0; omega, [(16, 16)], .cons _ _ _ (.c _ _ (.own _ _ rfl)) (.cons _ _ _ .same (.cons _ _ _ (.int_eq hwi) (.cons _ _ _ (.int_eq hwk) .nil))), .old 16 16 _ _ _ rfl rfl (.data_eq es) .nil, rfl⟩
            · have hgt : k < i := by simp at hx; omega
              show ABr _ _ _
              refine ⟨fun hx => absurd hx (by decide), fun _ => ?_⟩
              show ABr (decide ((i : Int) > (k : Int))) _ _
              refine ⟨fun _ => ?_, fun hx => absurd hx (by simp; omega)⟩
              show ARet _ _ _
              exact ⟨[(16, 16)], hp16 m, [.int i], .cons _ _ _ _ .same .nil, .old 16 16 _ _ _ rfl rfl (.data_eq rfl) .nil, rfl, i, m, rfl, rfl, hP.eq hgt⟩
      · have hgt : j < i := by simp at hx; omega
        show ABr _ _ _
        refine ⟨fun hx => absurd hx (by decide), fun _ => ?_⟩
        show ∃ n, _
        refine ⟨1, .next ?_⟩
        show ABr (decide ((i : Int) ≤ (j : Int))) _ _
        refine ⟨fun hx => absurd hx (by simp; omega), fun _ => ?_⟩
        show ABr _ _ _
        refine ⟨fun hx => absurd hx (by decide), fun _ => ?_⟩
        show ABr (decide ((i : Int) > (j : Int))) _ _
        refine ⟨fun _ => ?_, fun hx => absurd hx (by simp; omega)⟩
        show ARet _ _ _
        exact ⟨[(16, 16)], hp16 m, [.int i], .cons _ _ _ _ .same .nil, .old 16 16 _ _ _ rfl rfl (.data_eq rfl) .nil, rfl, i, m, rfl, rfl, hP.eq hgt⟩

set_option maxHeartbeats 2000000 in
theorem part_spec (l : List Int) (a b q : Nat) (haq : a ≤ q) (hqb : q < b) (hbl : b ≤ l.length) : Spec X 63 (hp16 l) [.c (.own 16), .int a, .int b, .int q] (PartQ l a b) := by
  refine spec_go X_ok Try.f63 (by kernel_rfl) (by kernel_rfl) (by kernel_rfl) fun hb hH => ⟨rfl, ?_⟩
  have hmax : l.length ≤ maxN := hH 16 .int l rfl
  have hmx : l.length ≤ 140737488355328 := hmax
  have hp0 := Pt.start (l := l) haq hqb hbl
  have hi0 : IntKind.i64.wrap ((a : Int) + 1) = ((a + 1 : Nat) : Int) := wrapN (by omega) (by omega)
  have hj0 : IntKind.i64.wrap ((b : Int) - 1) = ((b - 1 : Nat) : Int) := wrapN (by omega) (by omega)
  show AOb ((0 : Int) ≤ (q : Int) ∧ (q : Int) < (l.length : Int)) _
  refine ⟨by omega, ?_⟩
  show AOb (((q : Int)).toNat < l.length) _
  refine ⟨by omega, ?_⟩
  show AOb ((0 : Int) ≤ (a : Int) ∧ (a : Int) < (l.length : Int)) _
  refine ⟨by omega, ?_⟩
  show AOb (((a : Int)).toNat < l.length) _
  refine ⟨by omega, ?_⟩
  show AOb ((0 : Int) ≤ (a : Int) ∧ (a : Int) < (l.length : Int)) _
  refine ⟨by omega, ?_⟩
  show AOb (((a : Int)).toNat < l.length) _
  refine ⟨by omega, ?_⟩
  show AOb ((0 : Int) ≤ (q : Int) ∧ (q : Int) < ((l.set ((a : Int)).toNat (at0 l ((q : Int)).toNat)).length : Int)) _
  refine ⟨by rw [List.length_set]; omega, ?_⟩
  show AOb (((q : Int)).toNat < (l.set ((a : Int)).toNat (at0 l ((q : Int)).toNat)).length) _
  refine ⟨by rw [List.length_set]; omega, ?_⟩
  have es : ((l.set ((a : Int)).toNat (at0 l ((q : Int)).toNat))).set ((q : Int)).toNat (at0 l ((a : Int)).toNat) = swp l a q := by rfl
  show ∃ n, _
  refine ⟨0, ALoop.inv (ι := {p : List Int × Nat × Nat // Pt l p.1 a b (at0 l q) p.2.1 p.2.2}) (fun p => ⟨[(0, .c (.own 16)), (1, .int a), (10, .int p.1.2.1), (11, .int p.1.2.2)], [(16, .data .int p.1.1)], 64⟩) (fun p => p.1.2.2 + 1 - p.1.2.1) ⟨(swp l a q, a + 1, b - 1), hp0⟩ ?_ ?_⟩
  · exact ⟨[(16, 16)], .cons _ _ _ (.c _ _ (.own _ _ rfl)) (.cons _ _ _ .same (.cons _ _ _ (.int_eq hi0) (.cons _ _ _ (.int_eq hj0) .nil))), .old 16 16 _ _ _ rfl rfl (.data_eq es) .nil, rfl⟩
  · rintro ⟨⟨m, i, j⟩, hP⟩
    have hml : m.length = l.length := hP.srt.len
    have hai : a < i := hP.ai
    have hij : i ≤ j + 1 := hP.ij
    have hjb : j < b := hP.jb
    have hap : at0 m a = at0 l q := hP.piv
    have hwi := wrapP (i := i) (by omega)
    show ABr (decide ((i : Int) ≤ (j : Int))) _ _
    refine ⟨fun hx => ?_, fun hx => ?_⟩
    · have hle : i ≤ j := by simp at hx; omega
      show AOb ((0 : Int) ≤ (i : Int) ∧ (i : Int) < (m.length : Int)) _
      refine ⟨by omega, ?_⟩
      show AOb (((i : Int)).toNat < m.length) _
      refine ⟨by omega, ?_⟩
      show AOb ((0 : Int) ≤ (a : Int) ∧ (a : Int) < (m.length : Int)) _
      refine ⟨by omega, ?_⟩
      show AOb (((a : Int)).toNat < m.length) _
      refine ⟨by omega, ?_⟩
      show ADCall _ _ _ _ _ _
      refine .mk [] _ (Less_spec (at0 m ((i : Int)).toNat) (at0 m ((a : Int)).toNat)) rfl ?_
      show ABr (decide (at0 m i < at0 m a)) _ _
      refine ⟨fun hz => ?_, fun hz => ?_⟩
      · have hy : at0 m i ≤ at0 l q := by simp at hz; omega
        show ARound _ _ _ _
        exact ⟨⟨(m, i + 1, j), hP.up hle hy⟩, by show j + 1 - (i + 1) < j + 1 - i; omega, [(16, 16)], .cons _ _ _ (.c _ _ (.own _ _ rfl)) (.cons _ _ _ .same (.cons _ _ _ (.int_eq hwi) (.cons _ _ _ .same .nil))), .old 16 16 _ _ _ rfl rfl (.data_eq rfl) .nil, rfl⟩
      · have hn : at0 l q ≤ at0 m i ∧ at0 l q ≤ at0 m i := by simp at hz; omega
        show ∃ n, _
        refine ⟨0, ALoop.inv (ι := {p : Nat // Pt l m a b (at0 l q) i p ∧ p ≤ j}) (fun p => ⟨[(0, .c (.own 16)), (1, .int a), (10, .int i), (11, .int p.1)], [(16, .data .int m)], 64⟩) (fun p => p.1) ⟨j, hP, Nat.le_refl _⟩ ?_ ?_⟩
        · exact ⟨[(16, 16)], .cons _ _ _ (.c _ _ (.own _ _ rfl)) (.cons _ _ _ .same (.cons _ _ _ .same (.cons _ _ _ .same .nil))), .old 16 16 _ _ _ rfl rfl (.data_eq rfl) .nil, rfl⟩
        · rintro ⟨k, hP, hkj⟩
          have hml : m.length = l.length := hP.srt.len
          have hai : a < i := hP.ai
          have hij : i ≤ k + 1 := hP.ij
          have hjb : k < b := hP.jb
          have hap : at0 m a = at0 l q := hP.piv
          have hwi := wrapP (i := i) (by omega)
          show ABr (decide ((i : Int) ≤ (k : Int))) _ _
          refine ⟨fun hx => ?_, fun hx => ?_⟩
          · have hle : i ≤ k := by simp at hx; omega
            have hwk := wrapM (i := k) (by omega) (by omega)
            show AOb ((0 : Int) ≤ (k : Int) ∧ (k : Int) < (m.length : Int)) _
            refine ⟨by omega, ?_⟩
            show AOb (((k : Int)).toNat < m.length) _
            refine ⟨by omega, ?_⟩
            show AOb ((0 : Int) ≤ (a : Int) ∧ (a : Int) < (m.length : Int)) _
            refine ⟨by omega, ?_⟩
            show AOb (((a : Int)).toNat < m.length) _
            refine ⟨by omega, ?_⟩
            show ADCall _ _ _ _ _ _
            refine .mk [] _ (Less_spec (at0 m ((k : Int)).toNat) (at0 m ((a : Int)).toNat)) rfl ?_
            show ABr (!decide (at0 m k < at0 m a)) _ _
            refine ⟨fun hz => ?_, fun hz => ?_⟩
            · have hy : at0 l q ≤ at0 m k := by simp at hz; omega
              show ARound _ _ _ _
              exact ⟨⟨k - 1, hP.down hle hy, by show k - 1 ≤ j; omega⟩, by show k - 1 < k; omega, [(16, 16)], .cons _ _ _ (.c _ _ (.own _ _ rfl)) (.cons _ _ _ .same (.cons _ _ _ .same (.cons _ _ _ (.int_eq hwk) .nil))), .old 16 16 _ _ _ rfl rfl (.data_eq rfl) .nil, rfl⟩
            · have hk : at0 m k ≤ at0 l q ∧ at0 m k < at0 l q := by simp at hz; omega
              have hlt : i < k := Nat.lt_of_le_of_ne hle (fun e => by rw [e] at hn; omega)
              show ABr (decide ((i : Int) > (k : Int))) _ _
              refine ⟨fun hx => absurd hx (by simp; omega), fun _ => ?_⟩
              show AOb ((0 : Int) ≤ (k : Int) ∧ (k : Int) < (m.length : Int)) _
              refine ⟨by omega, ?_⟩
              show AOb (((k : Int)).toNat < m.length) _
              refine ⟨by omega, ?_⟩
              show AOb ((0 : Int) ≤ (i : Int) ∧ (i : Int) < (m.length : Int)) _
              refine ⟨by omega, ?_⟩
              show AOb (((i : Int)).toNat < m.length) _
              refine ⟨by omega, ?_⟩
              show AOb ((0 : Int) ≤ (i : Int) ∧ (i : Int) < (m.length : Int)) _
              refine ⟨by omega, ?_⟩
              show AOb (((i : Int)).toNat < m.length) _
              refine ⟨by omega, ?_⟩
              show AOb ((0 : Int) ≤ (k : Int) ∧ (k : Int) < ((m.set ((i : Int)).toNat (at0 m ((k : Int)).toNat)).length : Int)) _
              refine ⟨by rw [List.length_set]; omega, ?_⟩
              show AOb (((k : Int)).toNat < (m.set ((i : Int)).toNat (at0 m ((k : Int)).toNat)).length) _
              refine ⟨by rw [List.length_set]; omega, ?_⟩
              have es : ((m.set ((i : Int)).toNat (at0 m ((k : Int)).toNat))).set ((k : Int)).toNat (at0 m ((i : Int)).toNat) = swp m i k := by rfl
              show ∃ n, _
              refine ⟨0, ALoop.inv (ι := {p : List Int × Nat × Nat // Pt l p.1 a b (at0 l q) p.2.1 p.2.2}) (fun p => ⟨[(0, .c (.own 16)), (1, .int a), (10, .int p.1.2.1), (11, .int p.1.2.2)], [(16, .data .int p.1.1)], 64⟩) (fun p => p.1.2.2 + 1 - p.1.2.1) ⟨(swp m i k, i + 1, k - 1), hP.swap hbl hlt hn.1 hk.1⟩ ?_ ?_⟩
              · exact ⟨[(16, 16)], .cons _ _ _ (.c _ _ (.own _ _ rfl)) (.cons _ _ _ .same (.cons _ _ _ (.int_eq hwi) (.cons _ _ _ (.int_eq hwk) .nil))), .old 16 16 _ _ _ rfl rfl (.data_eq es) .nil, rfl⟩
              · clear hn hk hlt hml hai hij hjb hap hwi hwk hle hx hz hP hkj
                rintro ⟨⟨m0, i0, j0⟩, hP⟩
                have hle0 : i0 ≤ j0 + 1 := hP.ij
                show ∃ n, _
                refine ⟨0, ALoop.inv (ι := {p : List Int × Nat × Nat // Pt l p.1 a b (at0 l q) p.2.1 p.2.2 ∧ i0 ≤ p.2.1 ∧ p.2.2 ≤ j0}) (fun p => ⟨[(0, .c (.own 16)), (1, .int a), (10, .int p.1.2.1), (11, .int p.1.2.2)], [(16, .data .int p.1.1)], 64⟩) (fun p => p.1.2.2 + 1 - p.1.2.1) ⟨(m0, i0, j0), hP, Nat.le_refl _, Nat.le_refl _⟩ ?_ ?_⟩
                · exact ⟨[(16, 16)], .cons _ _ _ (.c _ _ (.own _ _ rfl)) (.cons _ _ _ .same (.cons _ _ _ .same (.cons _ _ _ .same .nil))), .old 16 16 _ _ _ rfl rfl (.data_eq rfl) .nil, rfl⟩
                · rintro ⟨⟨m, i, j⟩, hP, hi0, hj0⟩
                  have hi0 : i0 ≤ i := hi0
                  have hj0 : j ≤ j0 := hj0
                  have hml : m.length = l.length := hP.srt.len
                  have hai : a < i := hP.ai
                  have hij : i ≤ j + 1 := hP.ij
                  have hjb : j < b := hP.jb
                  have hap : at0 m a = at0 l q := hP.piv
                  have hwi := wrapP (i := i) (by omega)
                  show ABr (decide ((i : Int) ≤ (j : Int))) _ _
                  refine ⟨fun hx => ?_, fun hx => ?_⟩
                  · have hle : i ≤ j := by simp at hx; omega
                    show AOb ((0 : Int) ≤ (i : Int) ∧ (i : Int) < (m.length : Int)) _
                    refine ⟨by omega, ?_⟩
                    show AOb (((i : Int)).toNat < m.length) _
                    refine ⟨by omega, ?_⟩
                    show AOb ((0 : Int) ≤ (a : Int) ∧ (a : Int) < (m.length : Int)) _
                    refine ⟨by omega, ?_⟩
                    show AOb (((a : Int)).toNat < m.length) _
                    refine ⟨by omega, ?_⟩
                    show ADCall _ _ _ _ _ _
                    refine .mk [] _ (Less_spec (at0 m ((i : Int)).toNat) (at0 m ((a : Int)).toNat)) rfl ?_
                    show ABr (decide (at0 m i < at0 m a)) _ _
                    refine ⟨fun hz => ?_, fun hz => ?_⟩
                    · have hy : at0 m i ≤ at0 l q := by simp at hz; omega
                      show ARound _ _ _ _
                      exact ⟨⟨(m, i + 1, j), hP.up hle hy, by show i0 ≤ i + 1; omega, hj0⟩, by show j + 1 - (i + 1) < j + 1 - i; omega, [(16, 16)], .cons _ _ _ (.c _ _ (.own _ _ rfl)) (.cons _ _ _ .same (.cons _ _ _ (.int_eq hwi) (.cons _ _ _ .same .nil))), .old 16 16 _ _ _ rfl rfl (.data_eq rfl) .nil, rfl⟩
                    · have hn : at0 l q ≤ at0 m i ∧ at0 l q ≤ at0 m i := by simp at hz; omega
                      show ∃ n, _
                      refine ⟨0, ALoop.inv (ι := {p : Nat // Pt l m a b (at0 l q) i p ∧ p ≤ j}) (fun p => ⟨[(0, .c (.own 16)), (1, .int a), (10, .int i), (11, .int p.1)], [(16, .data .int m)], 64⟩) (fun p => p.1) ⟨j, hP, Nat.le_refl _⟩ ?_ ?_⟩
                      · exact ⟨[(16, 16)], .cons _ _ _ (.c _ _ (.own _ _ rfl)) (.cons _ _ _ .same (.cons _ _ _ .same (.cons _ _ _ .same .nil))), .old 16 16 _ _ _ rfl rfl (.data_eq rfl) .nil, rfl⟩
                      · rintro ⟨k, hP, hkj⟩
                        have hml : m.length = l.length := hP.srt.len
                        have hai : a < i := hP.ai
                        have hij : i ≤ k + 1 := hP.ij
                        have hjb : k < b := hP.jb
                        have hap : at0 m a = at0 l q := hP.piv
                        have hwi := wrapP (i := i) (by omega)
                        show ABr (decide ((i : Int) ≤ (k : Int))) _ _
                        refine ⟨fun hx => ?_, fun hx => ?_⟩
                        · have hle : i ≤ k := by simp at hx; omega
                          have hwk := wrapM (i := k) (by omega) (by omega)
                          show AOb ((0 : Int) ≤ (k : Int) ∧ (k : Int) < (m.length : Int)) _
                          refine ⟨by omega, ?_⟩
                          show AOb (((k : Int)).toNat < m.length) _
                          refine ⟨by omega, ?_⟩
                          show AOb ((0 : Int) ≤ (a : Int) ∧ (a : Int) < (m.length : Int)) _
                          refine ⟨by omega, ?_⟩
                          show AOb (((a : Int)).toNat < m.length) _
                          refine ⟨by omega, ?_⟩
                          show ADCall _ _ _ _ _ _
                          refine .mk [] _ (Less_spec (at0 m ((k : Int)).toNat) (at0 m ((a : Int)).toNat)) rfl ?_
                          show ABr (!decide (at0 m k < at0 m a)) _ _
                          refine ⟨fun hz => ?_, fun hz => ?_⟩
                          · have hy : at0 l q ≤ at0 m k := by simp at hz; omega
                            show ARound _ _ _ _
                            exact ⟨⟨k - 1, hP.down hle hy, by show k - 1 ≤ j; omega⟩, by show k - 1 < k; omega, [(16, 16)], .cons _ _ _ (.c _ _ (.own _ _ rfl)) (.cons _ _ _ .same (.cons _ _ _ .same (.cons _ _ _ (.int_eq hwk) .nil))), .old 16 16 _ _ _ rfl rfl (.data_eq rfl) .nil, rfl⟩
                          · have hk : at0 m k ≤ at0 l q ∧ at0 m k < at0 l q := by simp at hz; omega
                            have hlt : i < k := Nat.lt_of_le_of_ne hle (fun e => by rw [e] at hn; omega)
                            show ABr (decide ((i : Int) > (k : Int))) _ _
                            refine ⟨fun hx => absurd hx (by simp; omega), fun _ => ?_⟩
                            show AOb ((0 : Int) ≤ (k : Int) ∧ (k : Int) < (m.length : Int)) _
                            refine ⟨by omega, ?_⟩
                            show AOb (((k : Int)).toNat < m.length) _
                            refine ⟨by omega, ?_⟩
                            show AOb ((0 : Int) ≤ (i : Int) ∧ (i : Int) < (m.length : Int)) _
                            refine ⟨by omega, ?_⟩
                            show AOb (((i : Int)).toNat < m.length) _
                            refine ⟨by omega, ?_⟩
                            show AOb ((0 : Int) ≤ (i : Int) ∧ (i : Int) < (m.length : Int)) _
                            refine ⟨by omega, ?_⟩
                            show AOb (((i : Int)).toNat < m.length) _
                            refine ⟨by omega, ?_⟩
                            show AOb ((0 : Int) ≤ (k : Int) ∧ (k : Int) < ((m.set ((i : Int)).toNat (at0 m ((k : Int)).toNat)).length : Int)) _
                            refine ⟨by rw [List.length_set]; omega, ?_⟩
                            show AOb (((k : Int)).toNat < (m.set ((i : Int)).toNat (at0 m ((k : Int)).toNat)).length) _
                            refine ⟨by rw [List.length_set]; omega, ?_⟩
                            have es : ((m.set ((i : Int)).toNat (at0 m ((k : Int)).toNat))).set ((k : Int)).toNat (at0 m ((i : Int)).toNat) = swp m i k := by rfl
                            show ARound _ _ _ _
                            exact ⟨⟨(swp m i k, i + 1, k - 1), hP.swap hbl hlt hn.1 hk.1⟩, by show k - 1 + 1 - (i + 1) < j0 + 1 - i0; omega, [(16, 16)], .cons _ _ _ (.c _ _ (.own _ _ rfl)) (.cons _ _ _ .same (.cons _ _ _ (.int_eq hwi) (.cons _ _ _ (.int_eq hwk) .nil))), .old 16 16 _ _ _ rfl rfl (.data_eq es) .nil, rfl⟩
                        · have hgt : k < i := by simp at hx; omega
                          show ABr _ _ _
                          refine ⟨fun hx => absurd hx (by decide), fun _ => ?_⟩
                          show ABr (decide ((i : Int) > (k : Int))) _ _
                          refine ⟨fun _ => ?_, fun hx => absurd hx (by simp; omega)⟩
                          show AOb ((0 : Int) ≤ (a : Int) ∧ (a : Int) < (m.length : Int)) _
                          refine ⟨by omega, ?_⟩
                          show AOb (((a : Int)).toNat < m.length) _
                          refine ⟨by omega, ?_⟩
                          show AOb ((0 : Int) ≤ (k : Int) ∧ (k : Int) < (m.length : Int)) _
                          refine ⟨by omega, ?_⟩
                          show AOb (((k : Int)).toNat < m.length) _
                          refine ⟨by omega, ?_⟩
                          show AOb ((0 : Int) ≤ (k : Int) ∧ (k : Int) < (m.length : Int)) _
                          refine ⟨by omega, ?_⟩
                          show AOb (((k : Int)).toNat < m.length) _
                          refine ⟨by omega, ?_⟩
                          show AOb ((0 : Int) ≤ (a : Int) ∧ (a : Int) < ((m.set ((k : Int)).toNat (at0 m ((a : Int)).toNat)).length : Int)) _
                          refine ⟨by rw [List.length_set]; omega, ?_⟩
                          show AOb (((a : Int)).toNat < (m.set ((k : Int)).toNat (at0 m ((a : Int)).toNat)).length) _
                          refine ⟨by rw [List.length_set]; omega, ?_⟩
                          have es : ((m.set ((k : Int)).toNat (at0 m ((a : Int)).toNat))).set ((a : Int)).toNat (at0 m ((k : Int)).toNat) = swp m k a := by rfl
                          show ARet _ _ _
                          exact ⟨[(16, 16)], hp16 (swp m k a), [.int k, .bo false], .cons _ _ _ _ .same (.cons _ _ _ _ .same .nil), .old 16 16 _ _ _ rfl rfl (.data_eq es) .nil, rfl, k, false, _, rfl, rfl, hP.part hbl hgt⟩
                  · have hgt : j < i := by simp at hx; omega
                    show ABr _ _ _
                    refine ⟨fun hx => absurd hx (by decide), fun _ => ?_⟩
                    show ∃ n, _
                    refine ⟨1, .next ?_⟩
                    show ABr (decide ((i : Int) ≤ (j : Int))) _ _
                    refine ⟨fun hx => absurd hx (by simp; omega), fun _ => ?_⟩
                    show ABr _ _ _
                    refine ⟨fun hx => absurd hx (by decide), fun _ => ?_⟩
                    show ABr (decide ((i : Int) > (j : Int))) _ _
                    refine ⟨fun _ => ?_, fun hx => absurd hx (by simp; omega)⟩
                    show AOb ((0 : Int) ≤ (a : Int) ∧ (a : Int) < (m.length : Int)) _
                    refine ⟨by omega, ?_⟩
                    show AOb (((a : Int)).toNat < m.length) _
                    refine ⟨by omega, ?_⟩
                    show AOb ((0 : Int) ≤ (j : Int) ∧ (j : Int) < (m.length : Int)) _
                    refine ⟨by omega, ?_⟩
                    show AOb (((j : Int)).toNat < m.length) _
                    refine ⟨by omega, ?_⟩
                    show AOb ((0 : Int) ≤ (j : Int) ∧ (j : Int) < (m.length : Int)) _
                    refine ⟨by omega, ?_⟩
                    show AOb (((j : Int)).toNat < m.length) _
                    refine ⟨by omega, ?_⟩
                    show AOb ((0 : Int) ≤ (a : Int) ∧ (a : Int) < ((m.set ((j : Int)).toNat (at0 m ((a : Int)).toNat)).length : Int)) _
                    refine ⟨by rw [List.length_set]; omega, ?_⟩
                    show AOb (((a : Int)).toNat < (m.set ((j : Int)).toNat (at0 m ((a : Int)).toNat)).length) _
                    refine ⟨by rw [List.length_set]; omega, ?_⟩
                    have es : ((m.set ((j : Int)).toNat (at0 m ((a : Int)).toNat))).set ((a : Int)).toNat (at0 m ((j : Int)).toNat) = swp m j a := by rfl
                    show ARet _ _ _
                    exact ⟨[(16, 16)], hp16 (swp m j a), [.int j, .bo false], .cons _ _ _ _ .same (.cons _ _ _ _ .same .nil), .old 16 16 _ _ _ rfl rfl (.data_eq es) .nil, rfl, j, false, _, rfl, rfl, hP.part hbl hgt⟩
          · have hgt : k < i := by simp at hx; omega
            show ABr _ _ _
            refine ⟨fun hx => absurd hx (by decide), fun _ => ?_⟩
            show ABr (decide ((i : Int) > (k : Int))) _ _
            refine ⟨fun _ => ?_, fun hx => absurd hx (by simp; omega)⟩
            show AOb ((0 : Int) ≤ (a : Int) ∧ (a : Int) < (m.length : Int)) _
            refine ⟨by omega, ?_⟩
            show AOb (((a : Int)).toNat < m.length) _
            refine ⟨by omega, ?_⟩
            show AOb ((0 : Int) ≤ (k : Int) ∧ (k : Int) < (m.length : Int)) _
            refine ⟨by omega, ?_⟩
            show AOb (((k : Int)).toNat < m.length) _
            refine ⟨by omega, ?_⟩
            show AOb ((0 : Int) ≤ (k : Int) ∧ (k : Int) < (m.length : Int)) _
            refine ⟨by omega, ?_⟩
            show AOb (((k : Int)).toNat < m.length) _
            refine ⟨by omega, ?_⟩
            show AOb ((0 : Int) ≤ (a : Int) ∧ (a : Int) < ((m.set ((k : Int)).toNat (at0 m ((a : Int)).toNat)).length : Int)) _
            refine ⟨by rw [List.length_set]; omega, ?_⟩
            show AOb (((a : Int)).toNat < (m.set ((k : Int)).toNat (at0 m ((a : Int)).toNat)).length) _
            refine ⟨by rw [List.length_set]; omega, ?_⟩
            have es : ((m.set ((k : Int)).toNat (at0 m ((a : Int)).toNat))).set ((a : Int)).toNat (at0 m ((k : Int)).toNat) = swp m k a := by rfl
            show ARet _ _ _
            exact ⟨[(16, 16)], hp16 (swp m k a), [.int k, .bo true], .cons _ _ _ _ .same (.cons _ _ _ _ .same .nil), .old 16 16 _ _ _ rfl rfl (.data_eq es) .nil, rfl, k, true, _, rfl, rfl, hP.part hbl hgt⟩
    · have hgt : j < i := by simp at hx; omega
      show ABr _ _ _
      refine ⟨fun hx => absurd hx (by decide), fun _ => ?_⟩
      show ∃ n, _
      refine ⟨1, .next ?_⟩
      show ABr (decide ((i : Int) ≤ (j : Int))) _ _
      refine ⟨fun hx => absurd hx (by simp; omega), fun _ => ?_⟩
      show ABr _ _ _
      refine ⟨fun hx => absurd hx (by decide), fun _ => ?_⟩
      show ABr (decide ((i : Int) > (j : Int))) _ _
      refine ⟨fun _ => ?_, fun hx => absurd hx (by simp; omega)⟩
      show AOb ((0 : Int) ≤ (a : Int) ∧ (a : Int) < (m.length : Int)) _
      refine ⟨by omega, ?_⟩
      show AOb (((a : Int)).toNat < m.length) _
      refine ⟨by omega, ?_⟩
      show AOb ((0 : Int) ≤ (j : Int) ∧ (j : Int) < (m.length : Int)) _
      refine ⟨by omega, ?_⟩
      show AOb (((j : Int)).toNat < m.length) _
      refine ⟨by omega, ?_⟩
      show AOb ((0 : Int) ≤ (j : Int) ∧ (j : Int) < (m.length : Int)) _
      refine ⟨by omega, ?_⟩
      show AOb (((j : Int)).toNat < m.length) _
      refine ⟨by omega, ?_⟩
      show AOb ((0 : Int) ≤ (a : Int) ∧ (a : Int) < ((m.set ((j : Int)).toNat (at0 m ((a : Int)).toNat)).length : Int)) _
      refine ⟨by rw [List.length_set]; omega, ?_⟩
      show AOb (((a : Int)).toNat < (m.set ((j : Int)).toNat (at0 m ((a : Int)).toNat)).length) _
      refine ⟨by rw [List.length_set]; omega, ?_⟩
      have es : ((m.set ((j : Int)).toNat (at0 m ((a : Int)).toNat))).set ((a : Int)).toNat (at0 m ((j : Int)).toNat) = swp m j a := by rfl
      show ARet _ _ _
      exact ⟨[(16, 16)], hp16 (swp m j a), [.int j, .bo true], .cons _ _ _ _ .same (.cons _ _ _ _ .same .nil), .old 16 16 _ _ _ rfl rfl (.data_eq es) .nil, rfl, j, true, _, rfl, rfl, hP.part hbl hgt⟩

end Go.Abs
