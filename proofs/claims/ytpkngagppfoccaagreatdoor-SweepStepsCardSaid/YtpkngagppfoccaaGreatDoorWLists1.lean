/- Walks: lists of cells. -/
import Derived.Test.YtpkngagppfoccaaGreatDoorWSort
import Derived.Test.YtpkngagppfoccaaGreatDoorAbsBase1
set_option linter.all false
set_option linter.unusedVariables false
set_option linter.unusedSimpArgs false
namespace Go.Abs
open Go.Proofs Go.Proofs.YtpkngagppfoccaaGreatDoor
set_option maxRecDepth 8000

abbrev nilT : TV := .c (.d (.lit (.slice none 0 0)))

theorem Grow_nil : Spec X 115 [] [nilT, .int 0] (Ret [] nilT) := by
  refine spec_go X_ok Tryz.f115 (by kernel_rfl) (by kernel_rfl) (by kernel_rfl) fun hb hH => ⟨rfl, ?_⟩
  show ABr _ _ _
  refine ⟨fun h => absurd h (by decide), fun _ => ?_⟩
  show ABr _ _ _
  refine ⟨fun h => absurd h (by decide), fun _ => ?_⟩
  show ARet _ _ _
  exact ret_d rfl ⟨rfl, rfl⟩

theorem Grow_some (n : Nat) (h0 : 0 < n) (h1 : n ≤ most) : Spec X 115 [] [nilT, .int n] (Ret [(0, .data .int (List.replicate n (0 : Int)))] (.c (.view 0 0 0))) := by
  refine spec_go X_ok Tryz.f115 (by kernel_rfl) (by kernel_rfl) (by kernel_rfl) fun hb hH => ⟨rfl, ?_⟩
  unfold most at h1
  have hw : IntKind.i64.wrap ((n : Int) - IntKind.i64.wrap (0 - 0)) = (n : Int) := by
    have : IntKind.i64.wrap ((0 : Int) - 0) = 0 := by decide
    rw [this, wrap64 (by omega) (by omega)]; omega
  show ABr (decide ((n : Int) < 0)) _ _
  refine ⟨fun h => absurd h (by simp), fun _ => ?_⟩
  show ABr (decide (IntKind.i64.wrap ((n : Int) - IntKind.i64.wrap (0 - 0)) > 0)) _ _
  refine ⟨fun _ => ?_, fun h => absurd h (by rw [hw]; simp; omega)⟩
  show AOb _ _
  refine ⟨by decide, ?_⟩
  show AOb (0 ≤ IntKind.i64.wrap ((n : Int) - IntKind.i64.wrap (0 - 0)) ∧ IntKind.i64.wrap ((n : Int) - IntKind.i64.wrap (0 - 0)) ≤ (most : Int)) _
  refine ⟨by rw [hw]; unfold most; omega, ?_⟩
  show AOb ((0 : Int) ≤ 0 ∧ (0 : Int) ≤ ((List.replicate (IntKind.i64.wrap ((n : Int) - IntKind.i64.wrap (0 - 0))).toNat (0 : Int)).length : Int)) _
  refine ⟨by omega, ?_⟩
  show ARet _ _ _
  refine ⟨[(608, 0)], [(0, .data .int (List.replicate n (0 : Int)))], [.c (.view 0 0 0)], .cons _ _ _ _ (.c _ _ (.view _ _ _ _ rfl)) .nil, .old 0 608 _ _ _ rfl rfl (.data_eq ?_) .nil, rfl, rfl, rfl⟩
  rw [hw]
  rfl

theorem Concat3_spec (a b c : List Int) (h : a.length + b.length + c.length ≤ most) : Spec X 93 [] [.c (.d (.sl .ints [a, b, c]))] (Ret [(0, .data .int (a ++ b ++ c))] (.c (.own 0))) := by
  refine spec_go X_ok Tryz.f93 (by kernel_rfl) (by kernel_rfl) (by kernel_rfl) fun hb hH => ⟨rfl, ?_⟩
  have hm : a.length + b.length + c.length ≤ 68719476736 := h
  have w1 : IntKind.i64.wrap ((0 : Int) + a.length) = (a.length : Int) := by rw [wrap64 (by omega) (by omega)]; omega
  have w2 : IntKind.i64.wrap ((a.length : Int) + b.length) = ((a.length + b.length : Nat) : Int) := by rw [wrap64 (by omega) (by omega)]; omega
  have w3 : IntKind.i64.wrap (((a.length + b.length : Nat) : Int) + c.length) = ((a.length + b.length + c.length : Nat) : Int) := by rw [wrap64 (by omega) (by omega)]; omega
  have x2 : IntKind.i64.wrap (IntKind.i64.wrap ((0 : Int) + a.length) + b.length) = ((a.length + b.length : Nat) : Int) := by rw [w1, w2]
  have x3 : IntKind.i64.wrap (IntKind.i64.wrap (IntKind.i64.wrap ((0 : Int) + a.length) + b.length) + c.length) = ((a.length + b.length + c.length : Nat) : Int) := by rw [x2, w3]
  show ∃ n, _
  refine ⟨4, .next ?_⟩
  show ABr (decide ((0 : Int) < 3)) _ _
  refine ⟨fun _ => ?_, fun h => absurd h (by decide)⟩
  show AOb ((0 : Int) ≤ 0 ∧ (0 : Int) < 3) _
  refine ⟨by decide, ?_⟩
  show ABr (decide (IntKind.i64.wrap ((0 : Int) + a.length) < 0)) _ _
  refine ⟨fun h => absurd h (by rw [w1]; simp; try omega), fun _ => ?_⟩
  show ALoop _ _ _ _
  refine .next ?_
  show ABr (decide ((1 : Int) < 3)) _ _
  refine ⟨fun _ => ?_, fun h => absurd h (by decide)⟩
  show AOb ((0 : Int) ≤ 1 ∧ (1 : Int) < 3) _
  refine ⟨by decide, ?_⟩
  show ABr (decide (IntKind.i64.wrap (IntKind.i64.wrap ((0 : Int) + a.length) + b.length) < 0)) _ _
  refine ⟨fun h => absurd h (by rw [x2]; simp; try omega), fun _ => ?_⟩
  show ALoop _ _ _ _
  refine .next ?_
  show ABr (decide ((2 : Int) < 3)) _ _
  refine ⟨fun _ => ?_, fun h => absurd h (by decide)⟩
  show AOb ((0 : Int) ≤ 2 ∧ (2 : Int) < 3) _
  refine ⟨by decide, ?_⟩
  show ABr (decide (IntKind.i64.wrap (IntKind.i64.wrap (IntKind.i64.wrap ((0 : Int) + a.length) + b.length) + c.length) < 0)) _ _
  refine ⟨fun h => absurd h (by rw [x3]; simp; try omega), fun _ => ?_⟩
  show ALoop _ _ _ _
  refine .next ?_
  show ABr (decide ((3 : Int) < 3)) _ _
  refine ⟨fun h => absurd h (by decide), fun _ => ?_⟩
  show ACall _ _ [nilT, .int (IntKind.i64.wrap (IntKind.i64.wrap (IntKind.i64.wrap ((0 : Int) + a.length) + b.length) + c.length))] _ _ _
  rw [x3]
  by_cases h0 : a.length + b.length + c.length = 0
  · have ea : a = [] := List.eq_nil_of_length_eq_zero (by omega)
    have eb : b = [] := List.eq_nil_of_length_eq_zero (by omega)
    have ec : c = [] := List.eq_nil_of_length_eq_zero (by omega)
    subst ea eb ec
    refine call_ret Grow_nil rfl ?_
    show ∃ n, _
    refine ⟨4, .next ?_⟩
    show ABr (decide ((0 : Int) < 3)) _ _
    refine ⟨fun _ => ?_, fun h => absurd h (by decide)⟩
    show AOb ((0 : Int) ≤ 0 ∧ (0 : Int) < 3) _
    refine ⟨by decide, ?_⟩
    show AOb _ _
    refine ⟨Nat.zero_le _, ?_⟩
    show ALoop _ _ _ _
    refine .next ?_
    show ABr (decide ((1 : Int) < 3)) _ _
    refine ⟨fun _ => ?_, fun h => absurd h (by decide)⟩
    show AOb ((0 : Int) ≤ 1 ∧ (1 : Int) < 3) _
    refine ⟨by decide, ?_⟩
    show AOb _ _
    refine ⟨Nat.zero_le _, ?_⟩
    show ALoop _ _ _ _
    refine .next ?_
    show ABr (decide ((2 : Int) < 3)) _ _
    refine ⟨fun _ => ?_, fun h => absurd h (by decide)⟩
    show AOb ((0 : Int) ≤ 2 ∧ (2 : Int) < 3) _
    refine ⟨by decide, ?_⟩
    show AOb _ _
    refine ⟨Nat.zero_le _, ?_⟩
    show ALoop _ _ _ _
    refine .next ?_
    show ABr (decide ((3 : Int) < 3)) _ _
    refine ⟨fun h => absurd h (by decide), fun _ => ?_⟩
    show ARet _ _ _
    exact ⟨[(_, 0)], [(0, .data .int [])], [.c (.own 0)], .cons _ _ _ _ (.c _ _ (.own1 _ _)) .nil, .old 0 _ _ _ _ rfl rfl (.data_eq rfl) .nil, rfl, rfl, rfl⟩
  · refine .mk _ (Grow_some _ (by omega) h) ?_
    rintro H r ⟨rfl, rfl⟩ _ _
    refine ⟨.inl rfl, ?_⟩
    show ∃ n, _
    refine ⟨4, .next ?_⟩
    show ABr (decide ((0 : Int) < 3)) _ _
    refine ⟨fun _ => ?_, fun h => absurd h (by decide)⟩
    show AOb ((0 : Int) ≤ 0 ∧ (0 : Int) < 3) _
    refine ⟨by decide, ?_⟩
    show AOb (0 + a.length ≤ most) _
    refine ⟨by omega, ?_⟩
    show ALoop _ _ _ _
    refine .next ?_
    show ABr (decide ((1 : Int) < 3)) _ _
    refine ⟨fun _ => ?_, fun h => absurd h (by decide)⟩
    show AOb ((0 : Int) ≤ 1 ∧ (1 : Int) < 3) _
    refine ⟨by decide, ?_⟩
    show AOb (((List.replicate (a.length + b.length + c.length) (0 : Int)).take 0 ++ a).length + b.length ≤ most) _
    refine ⟨by simp; omega, ?_⟩
    show ALoop _ _ _ _
    refine .next ?_
    show ABr (decide ((2 : Int) < 3)) _ _
    refine ⟨fun _ => ?_, fun h => absurd h (by decide)⟩
    show AOb ((0 : Int) ≤ 2 ∧ (2 : Int) < 3) _
    refine ⟨by decide, ?_⟩
    show AOb (((List.replicate (a.length + b.length + c.length) (0 : Int)).take 0 ++ a ++ b).length + c.length ≤ most) _
    refine ⟨by simp; omega, ?_⟩
    show ALoop _ _ _ _
    refine .next ?_
    show ABr (decide ((3 : Int) < 3)) _ _
    refine ⟨fun h => absurd h (by decide), fun _ => ?_⟩
    show ARet _ _ _
    refine ⟨[(_, 0)], [(0, .data .int (a ++ b ++ c))], [.c (.own 0)], .cons _ _ _ _ (.c _ _ (.own1 _ _)) .nil, .old 0 _ _ _ _ rfl rfl (.data_eq ?_) .nil, rfl, rfl, rfl⟩
    show (List.replicate (a.length + b.length + c.length) (0 : Int)).take 0 ++ a ++ b ++ c = _
    simp
end Go.Abs

namespace Go.Abs
open Go.Proofs Go.Proofs.YtpkngagppfoccaaGreatDoor
set_option maxRecDepth 8000

theorem at0_app (l m : List Int) (p : Nat) : at0 (l ++ m) p = if p < l.length then at0 l p else at0 m (p - l.length) := by
  unfold at0
  rw [List.getD_eq_getElem?_getD, List.getD_eq_getElem?_getD, List.getD_eq_getElem?_getD, List.getElem?_append]
  split <;> rfl
theorem at0_drop (l : List Int) (o p : Nat) : at0 (l.drop o) p = at0 l (o + p) := by
  unfold at0
  rw [List.getD_eq_getElem?_getD, List.getD_eq_getElem?_getD, List.getElem?_drop]
theorem at0_take (l : List Int) (o p : Nat) (h : p < o) : at0 (l.take o) p = at0 l p := by
  unfold at0
  rw [List.getD_eq_getElem?_getD, List.getD_eq_getElem?_getD, List.getElem?_take, if_pos h]
/-- No two neighbours are alike. -/
def noAdj (l : List Int) (n : Nat) : Prop := ∀ i, i + 1 < n → at0 l i ≠ at0 l (i + 1)

def CompQ (l : List Int) : Heap → TV → Prop := fun H r => ∃ m n, H = hp16 m ∧ r = .c (.view 16 0 n) ∧ n ≤ m.length ∧ m.length = l.length ∧ (n = l.length ↔ noAdj l l.length)

theorem Compact_spec (l : List Int) : Spec X 91 (hp16 l) [.c (.own 16)] (CompQ l) := by
  refine spec_go X_ok Tryz.f91 (by kernel_rfl) (by kernel_rfl) (by kernel_rfl) fun hb hH => ⟨rfl, ?_⟩
  have hmax : l.length ≤ maxN := hH 16 .int l rfl
  unfold maxN at hmax
  show ABr (decide ((l.length : Int) < 2)) _ _
  refine ⟨fun h => ?_, fun h => ?_⟩
  · have hlt : l.length < 2 := by simp at h; omega
    show ARet _ _ _
    exact ⟨[(16, 16)], hp16 l, [.c (.view 16 0 l.length)], .cons _ _ _ _ (.c _ _ (.whole _ _ _ rfl rfl)) .nil, .old 16 16 _ _ _ rfl rfl (.data_eq rfl) .nil, rfl, l, l.length, rfl, rfl, Nat.le_refl _, rfl, ⟨fun _ i hi => by omega, fun _ => rfl⟩⟩
  · have hge : 2 ≤ l.length := by simp at h; omega
    show ∃ n, _
    refine ⟨0, ALoop.inv (ι := {k : Nat // 1 ≤ k ∧ k ≤ l.length ∧ noAdj l k}) (fun k => ⟨[(0, .c (.own 16)), (3, .int k.1)], [(16, .data .int l)], 64⟩) (fun k => l.length - k.1) ⟨1, Nat.le_refl _, by omega, fun i hi => by omega⟩ ?_ ?_⟩
    · exact ⟨[(16, 16)], .cons _ _ _ (.c _ _ (.own _ _ rfl)) (.cons _ _ _ .same .nil), .old 16 16 _ _ _ rfl rfl (.data_eq rfl) .nil, rfl⟩
    · rintro ⟨k, hk1, hkl, hno⟩
      show ABr (decide ((k : Int) < (l.length : Int))) _ _
      refine ⟨fun h => ?_, fun h => ?_⟩
      · have hlt : k < l.length := by simpa using h
        have hw : IntKind.i64.wrap ((k : Int) - 1) = ((k - 1 : Nat) : Int) := wrapM (by unfold maxN; omega) (by omega)
        show AOb ((0 : Int) ≤ (k : Int) ∧ (k : Int) < (l.length : Int)) _
        refine ⟨by omega, ?_⟩
        show AOb ((k : Int).toNat < l.length) _
        refine ⟨by omega, ?_⟩
        show AOb ((0 : Int) ≤ IntKind.i64.wrap ((k : Int) - 1) ∧ IntKind.i64.wrap ((k : Int) - 1) < (l.length : Int)) _
        refine ⟨by rw [hw]; omega, ?_⟩
        show AOb ((IntKind.i64.wrap ((k : Int) - 1)).toNat < l.length) _
        refine ⟨by rw [hw]; omega, ?_⟩
        have e1 : (IntKind.i64.wrap ((k : Int) - 1)).toNat = k - 1 := by rw [hw]; omega
        show ABr (decide (at0 l k = at0 l (IntKind.i64.wrap ((k : Int) - 1)).toNat)) _ _
        rw [e1]
        refine ⟨fun h2 => ?_, fun h2 => ?_⟩
        · have hdup : at0 l k = at0 l (k - 1) := by simpa using h2
          show AOb ((0 : Int) ≤ (k : Int) ∧ (k : Int) ≤ (l.length : Int)) _
          refine ⟨by omega, ?_⟩
          show ∃ n, _
          refine ⟨0, ALoop.inv (ι := {p : List Int × Nat × Nat // p.1.length = l.length ∧ k ≤ p.2.1 ∧ p.2.1 < k + p.2.2 ∧ 1 ≤ p.2.2 ∧ k + p.2.2 ≤ l.length}) (fun p => ⟨[(0, .c (.own 16)), (3, .int p.1.2.1), (4, .c (.view 16 k ((l.length : Int) - (k : Int)).toNat)), (5, .int p.1.2.2)], [(16, .data .int p.1.1)], 64⟩) (fun p => l.length - p.1.2.2) ⟨(l, k, 1), rfl, Nat.le_refl _, by show k < k + 1; omega, Nat.le_refl _, by show k + 1 ≤ l.length; omega⟩ ?_ ?_⟩
          · exact ⟨[(16, 16)], .cons _ _ _ (.c _ _ (.own _ _ rfl)) (.cons _ _ _ .same (.cons _ _ _ (.c _ _ (.view _ _ _ _ rfl)) (.cons _ _ _ .same .nil))), .old 16 16 _ _ _ rfl rfl (.data_eq rfl) .nil, rfl⟩
          · rintro ⟨⟨m, q, k2⟩, hm, hq, hq2, hk2, hkk⟩
            have hm : m.length = l.length := hm
            have hq : k ≤ q := hq
            have hq2 : q < k + k2 := hq2
            have hk2 : 1 ≤ k2 := hk2
            have hkk : k + k2 ≤ l.length := hkk
            show ABr (decide ((k2 : Int) < ((((l.length : Int) - (k : Int)).toNat : Nat) : Int))) _ _
            refine ⟨fun h => ?_, fun h => ?_⟩
            · have hlt2 : k + k2 < l.length := by simp at h; omega
              have hw2 : IntKind.i64.wrap ((k2 : Int) - 1) = ((k2 - 1 : Nat) : Int) := wrapM (by unfold maxN; omega) (by omega)
              show AOb ((0 : Int) ≤ (k2 : Int) ∧ (k2 : Int) < ((((l.length : Int) - (k : Int)).toNat : Nat) : Int)) _
              refine ⟨by omega, ?_⟩
              show AOb (k + (k2 : Int).toNat < m.length) _
              refine ⟨by omega, ?_⟩
              show AOb ((0 : Int) ≤ IntKind.i64.wrap ((k2 : Int) - 1) ∧ IntKind.i64.wrap ((k2 : Int) - 1) < ((((l.length : Int) - (k : Int)).toNat : Nat) : Int)) _
              refine ⟨by rw [hw2]; omega, ?_⟩
              show AOb (k + (IntKind.i64.wrap ((k2 : Int) - 1)).toNat < m.length) _
              refine ⟨by rw [hw2]; omega, ?_⟩
              show ABr _ _ _
              refine ⟨fun _ => ?_, fun _ => ?_⟩
              · show AOb ((0 : Int) ≤ (k2 : Int) ∧ (k2 : Int) < ((((l.length : Int) - (k : Int)).toNat : Nat) : Int)) _
                refine ⟨by omega, ?_⟩
                show AOb (k + (k2 : Int).toNat < m.length) _
                refine ⟨by omega, ?_⟩
                show AOb ((0 : Int) ≤ (q : Int) ∧ (q : Int) < (m.length : Int)) _
                refine ⟨by omega, ?_⟩
                show AOb ((q : Int).toNat < m.length) _
                refine ⟨by omega, ?_⟩
                show ARound _ _ _ _
                exact ⟨⟨(m.set q (at0 m (k + k2)), q + 1, k2 + 1), by show (m.set q _).length = _; rw [List.length_set]; exact hm, by show k ≤ q + 1; omega, by show q + 1 < k + (k2 + 1); omega, by show 1 ≤ k2 + 1; omega, by show k + (k2 + 1) ≤ l.length; omega⟩, by show l.length - (k2 + 1) < l.length - k2; omega, [(16, 16)], .cons _ _ _ (.c _ _ (.own _ _ rfl)) (.cons _ _ _ (.int_eq (wrapP (i := q) (by unfold maxN; omega))) (.cons _ _ _ (.c _ _ (.view _ _ _ _ rfl)) (.cons _ _ _ (.int_eq (wrapP (i := k2) (by unfold maxN; omega))) .nil))), .old 16 16 _ _ _ rfl rfl (.data_eq rfl) .nil, rfl⟩
              · show ARound _ _ _ _
                exact ⟨⟨(m, q, k2 + 1), hm, hq, by show q < k + (k2 + 1); omega, by show 1 ≤ k2 + 1; omega, by show k + (k2 + 1) ≤ l.length; omega⟩, by show l.length - (k2 + 1) < l.length - k2; omega, [(16, 16)], .cons _ _ _ (.c _ _ (.own _ _ rfl)) (.cons _ _ _ .same (.cons _ _ _ (.c _ _ (.view _ _ _ _ rfl)) (.cons _ _ _ (.int_eq (wrapP (i := k2) (by unfold maxN; omega))) .nil))), .old 16 16 _ _ _ rfl rfl (.data_eq rfl) .nil, rfl⟩
            · show AOb ((0 : Int) ≤ (q : Int) ∧ (q : Int) ≤ (m.length : Int)) _
              refine ⟨by omega, ?_⟩
              show AOb ((0 : Int) ≤ (q : Int) ∧ (q : Int) ≤ ((splice m (q : Int).toNat (List.replicate ((m.length : Int) - (q : Int)).toNat (0 : Int))).length : Int)) _
              have hspl : (splice m (q : Int).toNat (List.replicate ((m.length : Int) - (q : Int)).toNat (0 : Int))).length = m.length := by unfold splice; simp; omega
              refine ⟨by rw [hspl]; omega, ?_⟩
              show ARet _ _ _
              refine ⟨[(16, 16)], hp16 (splice m (q : Int).toNat (List.replicate ((m.length : Int) - (q : Int)).toNat (0 : Int))), [.c (.view 16 0 q)], .cons _ _ _ _ ?_ .nil, .old 16 16 _ _ _ rfl rfl (.data_eq rfl) .nil, rfl, _, q, rfl, rfl, by rw [hspl]; omega, by rw [hspl]; exact hm, ⟨fun h => by omega, fun h => absurd (h (k - 1) (by omega)) (by rw [show k - 1 + 1 = k by omega]; exact fun hc => hc hdup.symm)⟩⟩
              have e : (((some (q : Int)).getD ((List.length (α := Int) (splice m (q : Int).toNat (List.replicate ((m.length : Int) - (q : Int)).toNat (0 : Int))) : Nat) : Int)) - (none.getD 0 : Int)).toNat = q := by simp
              show LeT _ _ _ (.c (.view 16 _ (((some (q : Int)).getD ((List.length (α := Int) (splice m (q : Int).toNat (List.replicate ((m.length : Int) - (q : Int)).toNat (0 : Int))) : Nat) : Int)) - (none.getD 0 : Int)).toNat)) _
              rw [e]
              exact .c _ _ (.view _ _ _ _ rfl)
        · have hne : at0 l k ≠ at0 l (k - 1) := by simpa using h2
          show ARound _ _ _ _
          exact ⟨⟨k + 1, by omega, by omega, fun i hi => by
            by_cases hik : i + 1 = k
            · subst hik; exact fun hc => hne (by simpa using hc.symm)
            · exact hno i (by omega)⟩, by show l.length - (k + 1) < l.length - k; omega, [(16, 16)], .cons _ _ _ (.c _ _ (.own _ _ rfl)) (.cons _ _ _ (.int_eq (wrapP (i := k) (by unfold maxN; omega))) .nil), .old 16 16 _ _ _ rfl rfl (.data_eq rfl) .nil, rfl⟩
      · have hk : k = l.length := by simp at h; omega
        show ARet _ _ _
        exact ⟨[(16, 16)], hp16 l, [.c (.view 16 0 l.length)], .cons _ _ _ _ (.c _ _ (.whole _ _ _ rfl rfl)) .nil, .old 16 16 _ _ _ rfl rfl (.data_eq rfl) .nil, rfl, l, l.length, rfl, rfl, Nat.le_refl _, rfl, ⟨fun _ => hk ▸ hno, fun _ => rfl⟩⟩
end Go.Abs

namespace Go.Abs
open Go.Proofs Go.Proofs.YtpkngagppfoccaaGreatDoor
set_option maxRecDepth 8000

theorem is_spec (c : Int) : Spec X 149 [] [.int c] (Ret [] (.bo (cond (decide (c ≥ 0)) (decide (c < 3)) false))) := by
  refine spec_go X_ok Tryz.f149 (by kernel_rfl) (by kernel_rfl) (by kernel_rfl) fun _ _ => ⟨rfl, ?_⟩
  show ARet _ _ _
  exact ret_bo rfl ⟨rfl, rfl⟩

theorem copied (l : List Int) : splice (List.replicate ((l.length : Int)).toNat (0 : Int)) 0 (l.take (List.replicate ((l.length : Int)).toNat (0 : Int)).length) = l := by
  unfold splice
  simp

theorem lown_spec (l : Lists) (h : l.ok) : Spec X 150 [] [l.tv] (Ret [(0, .data .int l.l0), (1, .data .int l.l1), (2, .data .int l.l2)] (.agg [.own 0, .own 1, .own 2])) := by
  refine spec_go X_ok Tryz.f150 (by kernel_rfl) (by kernel_rfl) (by kernel_rfl) fun _ _ => ⟨rfl, ?_⟩
  show ∃ n, _
  refine ⟨4, .next ?_⟩
  show ABr _ _ _
  refine ⟨fun _ => ?_, fun hb => absurd hb (by decide)⟩
  show AOb _ _
  refine ⟨by decide, ?_⟩
  show AOb ((0 : Int) ≤ (l.l0.length : Int) ∧ (l.l0.length : Int) ≤ (l.l0.length : Int) ∧ (l.l0.length : Int) ≤ (most : Int)) _
  refine ⟨by have := h.1; omega, ?_⟩
  show AOb _ _
  refine ⟨by decide, ?_⟩
  show AOb _ _
  refine ⟨by decide, ?_⟩
  show AOb _ _
  refine ⟨by decide, ?_⟩
  show ALoop _ _ _ _
  refine .next ?_
  show ABr _ _ _
  refine ⟨fun _ => ?_, fun hb => absurd hb (by decide)⟩
  show AOb _ _
  refine ⟨by decide, ?_⟩
  show AOb ((0 : Int) ≤ (l.l1.length : Int) ∧ (l.l1.length : Int) ≤ (l.l1.length : Int) ∧ (l.l1.length : Int) ≤ (most : Int)) _
  refine ⟨by have := h.2.1; omega, ?_⟩
  show AOb _ _
  refine ⟨by decide, ?_⟩
  show AOb _ _
  refine ⟨by decide, ?_⟩
  show AOb _ _
  refine ⟨by decide, ?_⟩
  show ALoop _ _ _ _
  refine .next ?_
  show ABr _ _ _
  refine ⟨fun _ => ?_, fun hb => absurd hb (by decide)⟩
  show AOb _ _
  refine ⟨by decide, ?_⟩
  show AOb ((0 : Int) ≤ (l.l2.length : Int) ∧ (l.l2.length : Int) ≤ (l.l2.length : Int) ∧ (l.l2.length : Int) ≤ (most : Int)) _
  refine ⟨by have := h.2.2; omega, ?_⟩
  show AOb _ _
  refine ⟨by decide, ?_⟩
  show AOb _ _
  refine ⟨by decide, ?_⟩
  show AOb _ _
  refine ⟨by decide, ?_⟩
  show ALoop _ _ _ _
  refine .next ?_
  show ABr _ _ _
  refine ⟨fun hb => absurd hb (by decide), fun _ => ?_⟩
  show ARet _ _ _
  exact ⟨[(416, 0), (1056, 1), (1696, 2)], [(0, .data .int l.l0), (1, .data .int l.l1), (2, .data .int l.l2)], [.agg [.own 0, .own 1, .own 2]], .cons _ _ _ _ (.agg _ _ (.cons _ _ _ _ (.own _ _ rfl) (.cons _ _ _ _ (.own _ _ rfl) (.cons _ _ _ _ (.own _ _ rfl) .nil)))) .nil,
    .old 0 416 _ _ _ rfl rfl (.data_eq (copied l.l0)) (.old 1 1056 _ _ _ rfl rfl (.data_eq (copied l.l1)) (.old 2 1696 _ _ _ rfl rfl (.data_eq (copied l.l2)) .nil)), rfl, rfl, rfl⟩

abbrev own3 (l : Lists) : Heap := [(0, .data .int l.l0), (1, .data .int l.l1), (2, .data .int l.l2)]
abbrev own3T : TV := .agg [.own 0, .own 1, .own 2]

/-- A class's list. -/
def Lists.at_ (l : Lists) (c : Int) : List Int := if c = 0 then l.l0 else if c = 1 then l.l1 else l.l2
def Lists.set_ (l : Lists) (c : Int) (x : List Int) : Lists := if c = 0 then { l with l0 := x } else if c = 1 then { l with l1 := x } else { l with l2 := x }
theorem Push_spec (l : Lists) (c : Int) (a : List Int) (h : 0 ≤ c ∧ c ≤ 2) (hok : l.ok) (hm : (l.at_ c).length + a.length ≤ most) : Spec X 140 [] [l.tv, .int c, .c (.d (.sl .int a))] (Ret [] (.tup [(l.set_ c (l.at_ c ++ a)).tv, .int 0])) := by
  refine spec_go X_ok Tryz.f140 (by kernel_rfl) (by kernel_rfl) (by kernel_rfl) fun _ _ => ⟨rfl, ?_⟩
  have hc : c = 0 ∨ c = 1 ∨ c = 2 := by omega
  rcases hc with rfl | rfl | rfl
  · show ACall _ _ _ _ _ _
    refine call_ret (is_spec 0) rfl ?_
    show ABr _ _ _
    refine ⟨fun hb => absurd hb (by decide), fun _ => ?_⟩
    show ACall _ _ _ _ _ _
    refine .mk _ (lown_spec l hok) ?_
    rintro H r ⟨rfl, rfl⟩ _ _
    refine ⟨.inl rfl, ?_⟩
    show AOb ((0 : Int) ≤ 0 ∧ (0 : Int) < 3) _
    refine ⟨by decide, ?_⟩
    show AOb (l.l0.length + a.length ≤ most) _
    refine ⟨hm, ?_⟩
    show AOb ((0 : Int) ≤ 0 ∧ (0 : Int) < 3) _
    refine ⟨by decide, ?_⟩
    show ARet _ _ _
    exact ⟨[], [], [(l.set_ 0 (l.at_ 0 ++ a)).tv, .int 0], .cons _ _ _ _ (.agg _ _ (.cons _ _ _ _ (.frz _ _ rfl) (.cons _ _ _ _ (.frz _ _ rfl) (.cons _ _ _ _ (.frz _ _ rfl) .nil)))) (.cons _ _ _ _ .same .nil), .nil, rfl, rfl, rfl⟩
  · show ACall _ _ _ _ _ _
    refine call_ret (is_spec 1) rfl ?_
    show ABr _ _ _
    refine ⟨fun hb => absurd hb (by decide), fun _ => ?_⟩
    show ACall _ _ _ _ _ _
    refine .mk _ (lown_spec l hok) ?_
    rintro H r ⟨rfl, rfl⟩ _ _
    refine ⟨.inl rfl, ?_⟩
    show AOb ((0 : Int) ≤ 1 ∧ (1 : Int) < 3) _
    refine ⟨by decide, ?_⟩
    show AOb (l.l1.length + a.length ≤ most) _
    refine ⟨hm, ?_⟩
    show AOb ((0 : Int) ≤ 1 ∧ (1 : Int) < 3) _
    refine ⟨by decide, ?_⟩
    show ARet _ _ _
    exact ⟨[], [], [(l.set_ 1 (l.at_ 1 ++ a)).tv, .int 0], .cons _ _ _ _ (.agg _ _ (.cons _ _ _ _ (.frz _ _ rfl) (.cons _ _ _ _ (.frz _ _ rfl) (.cons _ _ _ _ (.frz _ _ rfl) .nil)))) (.cons _ _ _ _ .same .nil), .nil, rfl, rfl, rfl⟩
  · show ACall _ _ _ _ _ _
    refine call_ret (is_spec 2) rfl ?_
    show ABr _ _ _
    refine ⟨fun hb => absurd hb (by decide), fun _ => ?_⟩
    show ACall _ _ _ _ _ _
    refine .mk _ (lown_spec l hok) ?_
    rintro H r ⟨rfl, rfl⟩ _ _
    refine ⟨.inl rfl, ?_⟩
    show AOb ((0 : Int) ≤ 2 ∧ (2 : Int) < 3) _
    refine ⟨by decide, ?_⟩
    show AOb (l.l2.length + a.length ≤ most) _
    refine ⟨hm, ?_⟩
    show AOb ((0 : Int) ≤ 2 ∧ (2 : Int) < 3) _
    refine ⟨by decide, ?_⟩
    show ARet _ _ _
    exact ⟨[], [], [(l.set_ 2 (l.at_ 2 ++ a)).tv, .int 0], .cons _ _ _ _ (.agg _ _ (.cons _ _ _ _ (.frz _ _ rfl) (.cons _ _ _ _ (.frz _ _ rfl) (.cons _ _ _ _ (.frz _ _ rfl) .nil)))) (.cons _ _ _ _ .same .nil), .nil, rfl, rfl, rfl⟩

end Go.Abs

namespace Go.Abs
open Go.Proofs Go.Proofs.YtpkngagppfoccaaGreatDoor
set_option maxRecDepth 8000

theorem LeC.frz_eq {ρ : List (Nat × Nat)} {h h' : Heap} {x : CV} {k : EK} {l m : List k.T} (h1 : lendC (fun b => (nmOf ρ b).isNone) h 8 x = some (.sl k l)) (e : l = m) : LeC ρ h h' x (.d (.sl k m)) := by subst e; exact .frz _ _ h1

end Go.Abs

namespace Go.Abs
open Go.Proofs Go.Proofs.YtpkngagppfoccaaGreatDoor
set_option maxRecDepth 8000

def Lists.flat (l : Lists) : List Int := l.l0 ++ l.l1 ++ l.l2
def flats (L : List Lists) : List Int := L.flatMap Lists.flat

theorem flats_take (L : List Lists) (i : Nat) (h : i < L.length) : flats (L.take (i + 1)) = flats (L.take i) ++ (L.getD i default).flat := by
  unfold flats
  rw [List.take_add_one, List.getElem?_eq_getElem h, List.flatMap_append, List.getD_eq_getElem?_getD, List.getElem?_eq_getElem h]
  simp
theorem flats_le (L : List Lists) (i : Nat) : (flats (L.take i)).length ≤ (flats L).length := by
  have : flats L = flats (L.take i) ++ flats (L.drop i) := by
    unfold flats
    rw [← List.flatMap_append, List.take_append_drop]
  rw [this, List.length_append]
  omega

theorem All_spec (L : List Lists) (h : (flats L).length ≤ most) : Spec X 56 [] [.c (.d (.sl .lists L))] (Ret [(0, .data .int (flats L))] (.c (.own 0))) := by
  refine spec_go X_ok Tryz.f56 (by kernel_rfl) (by kernel_rfl) (by kernel_rfl) fun hb _ => ⟨rfl, ?_⟩
  have hmax : L.length ≤ maxN := (hb (.c (.d (.sl .lists L))) (by simp)).1
  show ∃ n, _
  refine ⟨0, ALoop.inv (ι := {i : Nat // i ≤ L.length}) (fun i => ⟨[(3, .c (.own 1)), (6, .c (.d (.sl .lists L))), (7, .int L.length), (8, .int i.1)], [(1, .data .int (flats (L.take i.1)))], 32⟩) (fun i => L.length - i.1) ⟨0, Nat.zero_le _⟩ ?_ ?_⟩
  · exact ⟨[], .cons _ _ _ (.c _ _ (.nilown 1 .int rfl rfl)) (.cons _ _ _ .same (.cons _ _ _ .same (.cons _ _ _ .same .nil))), .new 1 .int _ rfl .nil, rfl⟩
  · rintro ⟨i, hi⟩
    show ABr (decide ((i : Int) < (L.length : Int))) _ _
    refine ⟨fun h2 => ?_, fun h2 => ?_⟩
    · have hlt : i < L.length := by simpa using h2
      have hstep := flats_take L i hlt
      have hle := flats_le L (i + 1)
      have hlen : (flats (L.take (i + 1))).length = (flats (L.take i)).length + (L.getD i default).flat.length := by rw [hstep, List.length_append]
      have hfl : (L.getD i default).flat.length = (L.getD i default).l0.length + (L.getD i default).l1.length + (L.getD i default).l2.length := by simp [Lists.flat]; omega
      show AOb ((0 : Int) ≤ (i : Int) ∧ (i : Int) < (L.length : Int)) _
      refine ⟨by omega, ?_⟩
      show ACall _ _ _ _ _ _
      refine .mk _ (Concat3_spec (L.getD i default).l0 (L.getD i default).l1 (L.getD i default).l2 (by omega)) ?_
      rintro H r ⟨rfl, rfl⟩ _ _
      refine ⟨.inr ⟨rfl, rfl⟩, ?_⟩
      show AOb ((flats (L.take i)).length + (L.getD i default).flat.length ≤ most) _
      refine ⟨by omega, ?_⟩
      show ARound _ _ _ _
      exact ⟨⟨i + 1, hlt⟩, Nat.sub_lt_sub_left hlt (Nat.lt_succ_self i), [(_, 1)], .cons _ _ _ (.c _ _ (.own1 _ _)) (.cons _ _ _ .same (.cons _ _ _ .same (.cons _ _ _ (.int_eq (wrapP (i := i) (by omega))) .nil))), .old 1 _ _ _ _ rfl rfl (.data_eq hstep.symm) .nil, rfl⟩
    · have hge : i = L.length := by simp at h2; omega
      show ARet _ _ _
      refine ⟨[(_, 0)], [(0, .data .int (flats L))], [.c (.own 0)], .cons _ _ _ _ (.c _ _ (.own1 _ _)) .nil, .old 0 _ _ _ _ rfl rfl (.data_eq ?_) .nil, rfl, rfl, rfl⟩
      show flats (L.take i) = flats L
      rw [hge, List.take_length]

theorem at0_get {l : List Int} {i : Nat} (h : i < l.length) : at0 l i = l[i] := by
  unfold at0
  rw [List.getD_eq_getElem?_getD, List.getElem?_eq_getElem h]
  rfl

theorem adj_nodup {l : List Int} (hs : Sorted l 0 l.length) : noAdj l l.length ↔ l.Nodup := by
  unfold List.Nodup
  rw [List.pairwise_iff_getElem]
  constructor
  · intro h i j hi hj hij
    have h1 := h i (by omega)
    have h2 := hs i (i + 1) (Nat.zero_le _) (by omega) (by omega)
    have h3 : at0 l (i + 1) ≤ at0 l j := by
      by_cases e : i + 1 = j
      · subst e; exact Int.le_refl _
      · exact hs (i + 1) j (Nat.zero_le _) (by omega) hj
    rw [← at0_get hi, ← at0_get hj]
    omega
  · intro h i hi
    rw [at0_get (by omega), at0_get hi]
    exact h i (i + 1) (by omega) hi (by omega)

theorem Apart_of (L : List Lists) (h : (flats L).length ≤ most) (hs : Spec X 90 (hp16 (flats L)) [.c (.own 16)] (SortQ (flats L) 0 (flats L).length)) : Spec X 52 [] [.c (.d (.sl .lists L))] (Ret [] (.bo (decide (flats L).Nodup))) := by
  refine spec_go X_ok Tryz.f52 (by kernel_rfl) (by kernel_rfl) (by kernel_rfl) fun hb _ => ⟨rfl, ?_⟩
  show ACall _ _ _ _ _ _
  refine .mk _ (All_spec L h) ?_
  rintro H r ⟨rfl, rfl⟩ _ _
  refine ⟨.inl rfl, ?_⟩
  show ACall _ _ _ _ _ _
  refine .hand [(_, 16)] (hp16 (flats L)) [.c (.own 16)] _ (.cons _ _ _ _ (.c _ _ (.own1 _ _)) .nil) (.old 16 _ _ _ _ rfl rfl (.data_eq rfl) .nil) rfl hs ?_
  rintro H r ⟨rfl, l', rfl, hsr, hso⟩ _ _
  refine ⟨rfl, .inr ⟨rfl, rfl⟩, ?_⟩
  show ACall _ _ _ _ _ _
  refine .hand [(_, 16)] (hp16 l') [.c (.own 16)] _ (.cons _ _ _ _ (.c _ _ (.own1 _ _)) .nil) (.old 16 _ _ _ _ rfl rfl (.data_eq rfl) .nil) rfl (Compact_spec l') ?_
  rintro H r ⟨m, n, rfl, rfl, hnm, hml, hiff⟩ _ _
  refine ⟨rfl, .inr ⟨rfl, rfl⟩, ?_⟩
  show ARet _ _ _
  refine ret_bo (x := decide ((n : Int) = ((flats L).length : Int))) ?_ ⟨rfl, rfl⟩
  have hl : l'.length = (flats L).length := hsr.len
  rw [← hl] at hso
  have key : n = l'.length ↔ (flats L).Nodup := hiff.trans ((adj_nodup hso).trans hsr.perm.nodup_iff)
  rw [decide_eq_decide, ← key]
  omega

end Go.Abs

namespace Go.Abs
open Go.Proofs Go.Proofs.YtpkngagppfoccaaGreatDoor
set_option maxRecDepth 8000

end Go.Abs
