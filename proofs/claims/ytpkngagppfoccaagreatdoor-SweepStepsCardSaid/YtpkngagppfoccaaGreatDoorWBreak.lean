/- Walks: the library's sort: patterns are broken. -/
import Derived.Test.YtpkngagppfoccaaGreatDoorWPdqL
set_option linter.all false
set_option linter.unusedVariables false
set_option linter.unusedSimpArgs false
namespace Go.Abs
open Go.Proofs Go.Proofs.YtpkngagppfoccaaGreatDoor
set_option maxRecDepth 8000

theorem aux_bounds : ∀ f x, x < 2 ^ f → x < 2 ^ Lib.bitLenAux f x ∧ (0 < x → 2 ^ Lib.bitLenAux f x ≤ 2 * x)
  | 0, x, h => by
    have : x = 0 := by simpa using h
    subst this
    exact ⟨Nat.pow_pos (by decide), fun h => absurd h (Nat.lt_irrefl 0)⟩
  | f + 1, x, h => by
    unfold Lib.bitLenAux
    by_cases h0 : x = 0
    · subst h0; exact ⟨by simp, fun h => absurd h (by simp)⟩
    · rw [if_neg h0]
      have h1 : x / 2 < 2 ^ f := by rw [Nat.pow_succ] at h; omega
      obtain ⟨a1, a2⟩ := aux_bounds f (x / 2) h1
      rw [Nat.pow_add, Nat.pow_one]
      refine ⟨by omega, fun _ => ?_⟩
      by_cases h2 : 0 < x / 2
      · have := a2 h2; omega
      · have : x = 1 := by omega
        subst this
        have : Lib.bitLenAux f (1 / 2) = 0 := by cases f <;> rfl
        rw [this]
        decide

theorem bitLen_bounds {x : Nat} (h0 : 0 < x) (h : x < 2 ^ 48) : x < 2 ^ Lib.bitLen x ∧ 2 ^ Lib.bitLen x ≤ 2 * x ∧ Lib.bitLen x ≤ 49 := by
  have h64 : x < 2 ^ 64 := Nat.lt_of_lt_of_le h (by decide)
  obtain ⟨a1, a2⟩ := aux_bounds 64 x h64
  have a2 := a2 h0
  refine ⟨a1, a2, ?_⟩
  refine Classical.byContradiction fun hn => ?_
  have h1 : 2 ^ 50 ≤ 2 ^ Lib.bitLen x := Nat.pow_le_pow_right (by decide) (by omega)
  have : 2 ^ Lib.bitLen x ≤ 2 * x := a2
  have h3 : (2 : Nat) ^ 50 = 4 * 2 ^ 48 := by decide
  omega

theorem Len_exact (x : Int) (h0 : 0 ≤ x) (h1 : x ≤ 18446744073709551615) : Spec X 114 [] [.lit (.int .u64 x)] (Ret [] (.int (Lib.bitLen x.toNat))) := by
  refine spec_still (vs := [.int .u64 x]) ⟨Tryz.f114, by kernel_rfl, by kernel_rfl, by kernel_rfl⟩ (fun N S w us ha => ?_) fun w => (bits_Len x w h0 h1).mono ?_
  · match us, ha with
    | [u], ha => rw [rep_lit (ha.2 0 _ u rfl rfl)]
    | [], ha => exact absurd ha.1 (by simp)
    | _ :: _ :: _, ha => exact absurd ha.1 (by simp)
  · rintro e w' ⟨rfl, rfl⟩
    exact ⟨_, rfl, rfl, rfl, rfl, rfl⟩

theorem u64N {n : Nat} (h : n < 18446744073709551616) : IntKind.u64.wrap (n : Int) = (n : Int) := by
  unfold IntKind.wrap
  simp [IntKind.bits, IntKind.signed]
  omega

theorem nextPow_spec (n : Nat) (h0 : 0 < n) (h : n < 2 ^ 48) : Spec X 145 [] [.int n] (Ret [] (.lit (.int .u64 ((2 ^ Lib.bitLen n : Nat) : Int)))) := by
  refine spec_go X_ok Tryz.f145 (by kernel_rfl) (by kernel_rfl) (by kernel_rfl) fun hbd hH => ⟨rfl, ?_⟩
  have hw : IntKind.u64.wrap (n : Int) = (n : Int) := u64N (by omega)
  obtain ⟨b1, b2, b3⟩ := bitLen_bounds h0 h
  show ACall _ _ _ _ _ _
  refine call_ret (Len_exact (IntKind.u64.wrap (n : Int)) (by rw [hw]; omega) (by rw [hw]; omega)) rfl ?_
  rw [hw, Int.toNat_natCast]
  show AOb ((0 : Int) ≤ (Lib.bitLen n : Int)) _
  refine ⟨by omega, ?_⟩
  show ARet _ _ _
  have e : IntKind.u64.wrap ((1 : Int) * 2 ^ (min ((Lib.bitLen n : Int)).toNat 64)) = ((2 ^ Lib.bitLen n : Nat) : Int) := by
    rw [Int.toNat_natCast, Nat.min_eq_left (by omega), Int.one_mul]
    have : (2 : Int) ^ Lib.bitLen n = ((2 ^ Lib.bitLen n : Nat) : Int) := by simp
    rw [this, u64N]
    have : 2 ^ Lib.bitLen n ≤ 2 ^ 49 := Nat.pow_le_pow_right (by decide) b3
    omega
  refine ⟨[], [], [.lit (.int .u64 ((2 ^ Lib.bitLen n : Nat) : Int))], .cons _ _ _ _ ?_ .nil, .nil, rfl, rfl, rfl⟩
  show LeT _ _ _ (.c (.d (.lit (.int .u64 (IntKind.u64.wrap ((1 : Int) * 2 ^ (min ((Lib.bitLen n : Int)).toNat 64))))))) _
  rw [e]
  exact .same

theorem Next_spec (v : Int) : Spec X 146 [(16, .vars [.d (.lit (.int .u64 v))])] [.c (.ptr 16 0 0)] (fun H r => ∃ v' r' : Int, H = [(16, .vars [.d (.lit (.int .u64 v'))])] ∧ r = .lit (.int .u64 r')) := by
  refine spec_go X_ok Tryz.f146 (by kernel_rfl) (by kernel_rfl) (by kernel_rfl) fun hbd hH => ⟨rfl, ?_⟩
  show AOb _ _
  refine ⟨by decide, ?_⟩
  show AOb _ _
  refine ⟨by decide, ?_⟩
  show AOb _ _
  refine ⟨by decide, ?_⟩
  show ARet _ _ _
  exact ⟨[(16, 16)], [(16, .vars [.d (.lit (.int .u64 _))])], [.lit (.int .u64 _)], .cons _ _ _ _ .same .nil, .old 16 16 _ _ _ rfl rfl (.vars _ _ (.cons _ _ _ _ (.d _) .nil)) .nil, rfl, _, _, rfl, rfl⟩

/-- What is drawn lies below the power of two. -/
theorem masked (r : Int) {m : Nat} (hm : m ≤ 49) : ∃ k : Nat, k < 2 ^ m ∧ IntKind.i64.wrap (IntKind.u64.wrap ((BitVec.ofInt 64 r &&& BitVec.ofInt 64 (IntKind.u64.wrap (((2 ^ m : Nat) : Int) - 1))).toNat : Int)) = (k : Int) := by
  have hp : 0 < 2 ^ m := Nat.pow_pos (by decide)
  have hp2 : 2 ^ m ≤ 2 ^ 49 := Nat.pow_le_pow_right (by decide) hm
  have e1 : IntKind.u64.wrap (((2 ^ m : Nat) : Int) - 1) = ((2 ^ m - 1 : Nat) : Int) := by
    have : (((2 ^ m : Nat) : Int) - 1) = ((2 ^ m - 1 : Nat) : Int) := by omega
    rw [this, u64N (by omega)]
  rw [e1, BitVec.toNat_and]
  have e2 : (BitVec.ofInt 64 ((2 ^ m - 1 : Nat) : Int)).toNat = 2 ^ m - 1 := by
    rw [BitVec.ofInt_natCast, BitVec.toNat_ofNat, Nat.mod_eq_of_lt (by omega)]
  rw [e2]
  have hle : (BitVec.ofInt 64 r).toNat &&& (2 ^ m - 1) ≤ 2 ^ m - 1 := Nat.and_le_right
  refine ⟨(BitVec.ofInt 64 r).toNat &&& (2 ^ m - 1), by omega, ?_⟩
  rw [u64N (by omega), wrapN rfl (by omega)]

set_option maxHeartbeats 1000000 in
theorem break_spec (l : List Int) (a b : Nat) (h12 : a + 12 < b) (hb : b ≤ l.length) : Spec X 132 (hp16 l) [.c (.own 16), .int a, .int b] (fun H r => r = .tup [] ∧ ∃ l', H = hp16 l' ∧ Srt l l' a b) := by
  refine spec_go X_ok Tryz.f132 (by kernel_rfl) (by kernel_rfl) (by kernel_rfl) fun hbd hH => ⟨rfl, ?_⟩
  have hmax : l.length ≤ maxN := hH 16 .int l rfl
  have hmx : l.length ≤ 140737488355328 := hmax
  have hL : IntKind.i64.wrap ((b : Int) - (a : Int)) = ((b - a : Nat) : Int) := wrapN (by omega) (by omega)
  have hD : ((IntKind.i64.wrap ((b : Int) - (a : Int))).tdiv 4) = (((b - a) / 4 : Nat) : Int) := by rw [hL]; exact tdivN _ 4
  have hQ : IntKind.i64.wrap ((IntKind.i64.wrap ((b : Int) - (a : Int))).tdiv 4) = (((b - a) / 4 : Nat) : Int) := wrapN hD (by omega)
  have hM : IntKind.i64.wrap (IntKind.i64.wrap ((IntKind.i64.wrap ((b : Int) - (a : Int))).tdiv 4) * 2) = (((b - a) / 4 * 2 : Nat) : Int) := wrapN (by rw [hQ]; omega) (by omega)
  have hA : IntKind.i64.wrap ((a : Int) + IntKind.i64.wrap (IntKind.i64.wrap ((IntKind.i64.wrap ((b : Int) - (a : Int))).tdiv 4) * 2)) = ((a + (b - a) / 4 * 2 : Nat) : Int) := wrapN (by rw [hM]; omega) (by omega)
  have hB : IntKind.i64.wrap (IntKind.i64.wrap ((a : Int) + IntKind.i64.wrap (IntKind.i64.wrap ((IntKind.i64.wrap ((b : Int) - (a : Int))).tdiv 4) * 2)) - 1) = ((a + (b - a) / 4 * 2 - 1 : Nat) : Int) := wrapN (by rw [hA]; omega) (by omega)
  obtain ⟨b1, b2, b3⟩ := bitLen_bounds (x := b - a) (by omega) (by omega)
  show ABr (decide (IntKind.i64.wrap ((b : Int) - (a : Int)) ≥ 8)) _ _
  refine ⟨fun _ => ?_, fun h => absurd h (by rw [hL]; simp; omega)⟩
  show ACall X _ [.int (IntKind.i64.wrap ((b : Int) - (a : Int)))] _ _ _
  rw [hL]
  refine call_ret (nextPow_spec (b - a) (by omega) (by omega)) rfl ?_
  show AOb ((4 : Int) ≠ 0) _
  refine ⟨by decide, ?_⟩
  have hD' : (((b - a : Nat) : Int).tdiv 4) = (((b - a) / 4 : Nat) : Int) := tdivN _ 4
  have hQ' : IntKind.i64.wrap (((b - a : Nat) : Int).tdiv 4) = (((b - a) / 4 : Nat) : Int) := wrapN hD' (by omega)
  have hM' : IntKind.i64.wrap (IntKind.i64.wrap (((b - a : Nat) : Int).tdiv 4) * 2) = (((b - a) / 4 * 2 : Nat) : Int) := wrapN (by rw [hQ']; omega) (by omega)
  have hA' : IntKind.i64.wrap ((a : Int) + IntKind.i64.wrap (IntKind.i64.wrap (((b - a : Nat) : Int).tdiv 4) * 2)) = ((a + (b - a) / 4 * 2 : Nat) : Int) := wrapN (by rw [hM']; omega) (by omega)
  have hB' : IntKind.i64.wrap (IntKind.i64.wrap ((a : Int) + IntKind.i64.wrap (IntKind.i64.wrap (((b - a : Nat) : Int).tdiv 4) * 2)) + 1) = ((a + (b - a) / 4 * 2 + 1 : Nat) : Int) := wrapN (by rw [hA']; omega) (by omega)
  have hB2 : IntKind.i64.wrap (IntKind.i64.wrap ((a : Int) + IntKind.i64.wrap (IntKind.i64.wrap (((b - a : Nat) : Int).tdiv 4) * 2)) - 1) = ((a + (b - a) / 4 * 2 - 1 : Nat) : Int) := wrapN (by rw [hA']; omega) (by omega)
  show ∃ n, _
  refine ⟨0, ALoop.inv (ι := {p : List Int × Nat × Int // Srt l p.1 a b ∧ a ≤ p.2.1 ∧ p.2.1 ≤ a + (b - a) / 4 * 2 + 2}) (fun p => ⟨[(0, .c (.own 16)), (1, .int a), (6, .int (b - a : Nat)), (7, .c (.ptr 0 0 0)), (8, .lit (.int .u64 ((2 ^ Lib.bitLen (b - a) : Nat) : Int))), (9, .int p.1.2.1)], [(16, .data .int p.1.1), (0, .vars [.d (.lit (.int .u64 p.1.2.2))])], 64⟩) (fun p => a + (b - a) / 4 * 2 + 2 - p.1.2.1) ⟨(l, a + (b - a) / 4 * 2 - 1, IntKind.u64.wrap ((b - a : Nat) : Int)), Srt.refl _ _ _, by show a ≤ a + (b - a) / 4 * 2 - 1; omega, by show a + (b - a) / 4 * 2 - 1 ≤ _; omega⟩ ?_ ?_⟩
  · exact ⟨[(16, 16), (288, 0)], .cons _ _ _ (.c _ _ (.own _ _ rfl)) (.cons _ _ _ .same (.cons _ _ _ .same (.cons _ _ _ (.c _ _ (.ptr _ _ _ _ rfl)) (.cons _ _ _ .same (.cons _ _ _ (.int_eq hB2) .nil))))), .old 16 16 _ _ _ rfl rfl (.data_eq rfl) (.old 0 288 _ _ _ rfl rfl (.vars _ _ (LeL_refl rfl)) .nil), rfl⟩
  · rintro ⟨⟨m, i, v⟩, hs, hai, hib⟩
    have hml : m.length = l.length := hs.len
    have hai : a ≤ i := hai
    have hib : i ≤ a + (b - a) / 4 * 2 + 2 := hib
    show AOb ((4 : Int) ≠ 0) _
    refine ⟨by decide, ?_⟩
    show ABr (decide ((i : Int) ≤ IntKind.i64.wrap (IntKind.i64.wrap ((a : Int) + IntKind.i64.wrap (IntKind.i64.wrap (((b - a : Nat) : Int).tdiv 4) * 2)) + 1))) _ _
    refine ⟨fun h2 => ?_, fun h2 => ?_⟩
    · have hi2 : i ≤ a + (b - a) / 4 * 2 + 1 := by rw [hB'] at h2; simp at h2; omega
      show ACall _ _ _ _ _ _
      refine .hand [(0, 16)] [(16, .vars [.d (.lit (.int .u64 v))])] [.c (.ptr 16 0 0)] _ (.cons _ _ _ _ (.c _ _ (.ptr _ _ _ _ rfl)) .nil) (.old 16 0 _ _ _ rfl rfl (.vars _ _ (LeL_refl rfl)) .nil) rfl (Next_spec v) ?_
      rintro H q ⟨v', r, rfl, rfl⟩ _ _
      refine ⟨rfl, .inr ⟨rfl, rfl⟩, ?_⟩
      obtain ⟨k, hk1, hk2⟩ := masked r (m := Lib.bitLen (b - a)) b3
      have hk3 : k < 2 * (b - a) := by omega
      show ABr (decide (IntKind.i64.wrap (IntKind.u64.wrap ((BitVec.ofInt 64 r &&& BitVec.ofInt 64 (IntKind.u64.wrap (((2 ^ Lib.bitLen (b - a) : Nat) : Int) - 1))).toNat : Int)) ≥ ((b - a : Nat) : Int))) _ _
      refine ⟨fun h3 => ?_, fun h3 => ?_⟩
      · have hge : b - a ≤ k := by rw [hk2] at h3; simp at h3; omega
        have hx : IntKind.i64.wrap (IntKind.i64.wrap (IntKind.u64.wrap ((BitVec.ofInt 64 r &&& BitVec.ofInt 64 (IntKind.u64.wrap (((2 ^ Lib.bitLen (b - a) : Nat) : Int) - 1))).toNat : Int)) - ((b - a : Nat) : Int)) = ((k - (b - a) : Nat) : Int) := wrapN (by rw [hk2]; omega) (by omega)
        have he : IntKind.i64.wrap ((a : Int) + IntKind.i64.wrap (IntKind.i64.wrap (IntKind.u64.wrap ((BitVec.ofInt 64 r &&& BitVec.ofInt 64 (IntKind.u64.wrap (((2 ^ Lib.bitLen (b - a) : Nat) : Int) - 1))).toNat : Int)) - ((b - a : Nat) : Int))) = ((a + (k - (b - a)) : Nat) : Int) := wrapN (by rw [hx]; omega) (by omega)
        have hn : (IntKind.i64.wrap ((a : Int) + IntKind.i64.wrap (IntKind.i64.wrap (IntKind.u64.wrap ((BitVec.ofInt 64 r &&& BitVec.ofInt 64 (IntKind.u64.wrap (((2 ^ Lib.bitLen (b - a) : Nat) : Int) - 1))).toNat : Int)) - ((b - a : Nat) : Int)))).toNat = a + (k - (b - a)) := by rw [he]; omega
        show AOb ((0 : Int) ≤ IntKind.i64.wrap ((a : Int) + IntKind.i64.wrap (IntKind.i64.wrap (IntKind.u64.wrap ((BitVec.ofInt 64 r &&& BitVec.ofInt 64 (IntKind.u64.wrap (((2 ^ Lib.bitLen (b - a) : Nat) : Int) - 1))).toNat : Int)) - ((b - a : Nat) : Int))) ∧ IntKind.i64.wrap ((a : Int) + IntKind.i64.wrap (IntKind.i64.wrap (IntKind.u64.wrap ((BitVec.ofInt 64 r &&& BitVec.ofInt 64 (IntKind.u64.wrap (((2 ^ Lib.bitLen (b - a) : Nat) : Int) - 1))).toNat : Int)) - ((b - a : Nat) : Int))) < (m.length : Int)) _
        refine ⟨by rw [he]; omega, ?_⟩
        show AOb ((IntKind.i64.wrap ((a : Int) + IntKind.i64.wrap (IntKind.i64.wrap (IntKind.u64.wrap ((BitVec.ofInt 64 r &&& BitVec.ofInt 64 (IntKind.u64.wrap (((2 ^ Lib.bitLen (b - a) : Nat) : Int) - 1))).toNat : Int)) - ((b - a : Nat) : Int)))).toNat < m.length) _
        refine ⟨by rw [hn]; omega, ?_⟩
        show AOb ((0 : Int) ≤ (i : Int) ∧ (i : Int) < (m.length : Int)) _
        refine ⟨by omega, ?_⟩
        show AOb ((i : Int).toNat < m.length) _
        refine ⟨by omega, ?_⟩
        show AOb ((0 : Int) ≤ (i : Int) ∧ (i : Int) < (m.length : Int)) _
        refine ⟨by omega, ?_⟩
        show AOb ((i : Int).toNat < m.length) _
        refine ⟨by omega, ?_⟩
        show AOb ((0 : Int) ≤ IntKind.i64.wrap ((a : Int) + IntKind.i64.wrap (IntKind.i64.wrap (IntKind.u64.wrap ((BitVec.ofInt 64 r &&& BitVec.ofInt 64 (IntKind.u64.wrap (((2 ^ Lib.bitLen (b - a) : Nat) : Int) - 1))).toNat : Int)) - ((b - a : Nat) : Int))) ∧ IntKind.i64.wrap ((a : Int) + IntKind.i64.wrap (IntKind.i64.wrap (IntKind.u64.wrap ((BitVec.ofInt 64 r &&& BitVec.ofInt 64 (IntKind.u64.wrap (((2 ^ Lib.bitLen (b - a) : Nat) : Int) - 1))).toNat : Int)) - ((b - a : Nat) : Int))) < ((m.set (i : Int).toNat (at0 m (IntKind.i64.wrap ((a : Int) + IntKind.i64.wrap (IntKind.i64.wrap (IntKind.u64.wrap ((BitVec.ofInt 64 r &&& BitVec.ofInt 64 (IntKind.u64.wrap (((2 ^ Lib.bitLen (b - a) : Nat) : Int) - 1))).toNat : Int)) - ((b - a : Nat) : Int)))).toNat)).length : Int)) _
        refine ⟨by rw [List.length_set, he]; omega, ?_⟩
        show AOb ((IntKind.i64.wrap ((a : Int) + IntKind.i64.wrap (IntKind.i64.wrap (IntKind.u64.wrap ((BitVec.ofInt 64 r &&& BitVec.ofInt 64 (IntKind.u64.wrap (((2 ^ Lib.bitLen (b - a) : Nat) : Int) - 1))).toNat : Int)) - ((b - a : Nat) : Int)))).toNat < (m.set (i : Int).toNat (at0 m (IntKind.i64.wrap ((a : Int) + IntKind.i64.wrap (IntKind.i64.wrap (IntKind.u64.wrap ((BitVec.ofInt 64 r &&& BitVec.ofInt 64 (IntKind.u64.wrap (((2 ^ Lib.bitLen (b - a) : Nat) : Int) - 1))).toNat : Int)) - ((b - a : Nat) : Int)))).toNat)).length) _
        refine ⟨by rw [List.length_set, hn]; omega, ?_⟩
        show ARound _ _ _ _
        refine ⟨⟨(swp m i (a + (k - (b - a))), i + 1, v'), hs.trans (swp_srt m i (a + (k - (b - a))) a b hai (by omega) (by omega) (by omega) (by omega)), by show a ≤ i + 1; omega, by show i + 1 ≤ _; omega⟩, by show a + (b - a) / 4 * 2 + 2 - (i + 1) < a + (b - a) / 4 * 2 + 2 - i; omega, [(16, 16), (0, 0)], .cons _ _ _ (.c _ _ (.own _ _ rfl)) (.cons _ _ _ .same (.cons _ _ _ .same (.cons _ _ _ (.c _ _ (.ptr _ _ _ _ rfl)) (.cons _ _ _ .same (.cons _ _ _ (.int_eq (wrapP (i := i) (by omega))) .nil))))), .old 16 16 _ _ _ rfl rfl (.data_eq ?_) (.old 0 0 _ _ _ rfl rfl (.vars _ _ (LeL_refl rfl)) .nil), rfl⟩
        show (m.set (i : Int).toNat (at0 m (IntKind.i64.wrap ((a : Int) + IntKind.i64.wrap (IntKind.i64.wrap (IntKind.u64.wrap ((BitVec.ofInt 64 r &&& BitVec.ofInt 64 (IntKind.u64.wrap (((2 ^ Lib.bitLen (b - a) : Nat) : Int) - 1))).toNat : Int)) - ((b - a : Nat) : Int)))).toNat)).set (IntKind.i64.wrap ((a : Int) + IntKind.i64.wrap (IntKind.i64.wrap (IntKind.u64.wrap ((BitVec.ofInt 64 r &&& BitVec.ofInt 64 (IntKind.u64.wrap (((2 ^ Lib.bitLen (b - a) : Nat) : Int) - 1))).toNat : Int)) - ((b - a : Nat) : Int)))).toNat (at0 m (i : Int).toNat) = swp m i (a + (k - (b - a)))
        rw [hn]
        rfl
      · have hlt : k < b - a := by rw [hk2] at h3; simp at h3; omega
        have hx := hk2
        have he : IntKind.i64.wrap ((a : Int) + IntKind.i64.wrap (IntKind.u64.wrap ((BitVec.ofInt 64 r &&& BitVec.ofInt 64 (IntKind.u64.wrap (((2 ^ Lib.bitLen (b - a) : Nat) : Int) - 1))).toNat : Int))) = ((a + k : Nat) : Int) := wrapN (by rw [hx]; omega) (by omega)
        have hn : (IntKind.i64.wrap ((a : Int) + IntKind.i64.wrap (IntKind.u64.wrap ((BitVec.ofInt 64 r &&& BitVec.ofInt 64 (IntKind.u64.wrap (((2 ^ Lib.bitLen (b - a) : Nat) : Int) - 1))).toNat : Int)))).toNat = a + k := by rw [he]; omega
        show AOb ((0 : Int) ≤ IntKind.i64.wrap ((a : Int) + IntKind.i64.wrap (IntKind.u64.wrap ((BitVec.ofInt 64 r &&& BitVec.ofInt 64 (IntKind.u64.wrap (((2 ^ Lib.bitLen (b - a) : Nat) : Int) - 1))).toNat : Int))) ∧ IntKind.i64.wrap ((a : Int) + IntKind.i64.wrap (IntKind.u64.wrap ((BitVec.ofInt 64 r &&& BitVec.ofInt 64 (IntKind.u64.wrap (((2 ^ Lib.bitLen (b - a) : Nat) : Int) - 1))).toNat : Int))) < (m.length : Int)) _
        refine ⟨by rw [he]; omega, ?_⟩
        show AOb ((IntKind.i64.wrap ((a : Int) + IntKind.i64.wrap (IntKind.u64.wrap ((BitVec.ofInt 64 r &&& BitVec.ofInt 64 (IntKind.u64.wrap (((2 ^ Lib.bitLen (b - a) : Nat) : Int) - 1))).toNat : Int)))).toNat < m.length) _
        refine ⟨by rw [hn]; omega, ?_⟩
        show AOb ((0 : Int) ≤ (i : Int) ∧ (i : Int) < (m.length : Int)) _
        refine ⟨by omega, ?_⟩
        show AOb ((i : Int).toNat < m.length) _
        refine ⟨by omega, ?_⟩
        show AOb ((0 : Int) ≤ (i : Int) ∧ (i : Int) < (m.length : Int)) _
        refine ⟨by omega, ?_⟩
        show AOb ((i : Int).toNat < m.length) _
        refine ⟨by omega, ?_⟩
        show AOb ((0 : Int) ≤ IntKind.i64.wrap ((a : Int) + IntKind.i64.wrap (IntKind.u64.wrap ((BitVec.ofInt 64 r &&& BitVec.ofInt 64 (IntKind.u64.wrap (((2 ^ Lib.bitLen (b - a) : Nat) : Int) - 1))).toNat : Int))) ∧ IntKind.i64.wrap ((a : Int) + IntKind.i64.wrap (IntKind.u64.wrap ((BitVec.ofInt 64 r &&& BitVec.ofInt 64 (IntKind.u64.wrap (((2 ^ Lib.bitLen (b - a) : Nat) : Int) - 1))).toNat : Int))) < ((m.set (i : Int).toNat (at0 m (IntKind.i64.wrap ((a : Int) + IntKind.i64.wrap (IntKind.u64.wrap ((BitVec.ofInt 64 r &&& BitVec.ofInt 64 (IntKind.u64.wrap (((2 ^ Lib.bitLen (b - a) : Nat) : Int) - 1))).toNat : Int)))).toNat)).length : Int)) _
        refine ⟨by rw [List.length_set, he]; omega, ?_⟩
        show AOb ((IntKind.i64.wrap ((a : Int) + IntKind.i64.wrap (IntKind.u64.wrap ((BitVec.ofInt 64 r &&& BitVec.ofInt 64 (IntKind.u64.wrap (((2 ^ Lib.bitLen (b - a) : Nat) : Int) - 1))).toNat : Int)))).toNat < (m.set (i : Int).toNat (at0 m (IntKind.i64.wrap ((a : Int) + IntKind.i64.wrap (IntKind.u64.wrap ((BitVec.ofInt 64 r &&& BitVec.ofInt 64 (IntKind.u64.wrap (((2 ^ Lib.bitLen (b - a) : Nat) : Int) - 1))).toNat : Int)))).toNat)).length) _
        refine ⟨by rw [List.length_set, hn]; omega, ?_⟩
        show ARound _ _ _ _
        refine ⟨⟨(swp m i (a + k), i + 1, v'), hs.trans (swp_srt m i (a + k) a b hai (by omega) (by omega) (by omega) (by omega)), by show a ≤ i + 1; omega, by show i + 1 ≤ _; omega⟩, by show a + (b - a) / 4 * 2 + 2 - (i + 1) < a + (b - a) / 4 * 2 + 2 - i; omega, [(16, 16), (0, 0)], .cons _ _ _ (.c _ _ (.own _ _ rfl)) (.cons _ _ _ .same (.cons _ _ _ .same (.cons _ _ _ (.c _ _ (.ptr _ _ _ _ rfl)) (.cons _ _ _ .same (.cons _ _ _ (.int_eq (wrapP (i := i) (by omega))) .nil))))), .old 16 16 _ _ _ rfl rfl (.data_eq ?_) (.old 0 0 _ _ _ rfl rfl (.vars _ _ (LeL_refl rfl)) .nil), rfl⟩
        show (m.set (i : Int).toNat (at0 m (IntKind.i64.wrap ((a : Int) + IntKind.i64.wrap (IntKind.u64.wrap ((BitVec.ofInt 64 r &&& BitVec.ofInt 64 (IntKind.u64.wrap (((2 ^ Lib.bitLen (b - a) : Nat) : Int) - 1))).toNat : Int)))).toNat)).set (IntKind.i64.wrap ((a : Int) + IntKind.i64.wrap (IntKind.u64.wrap ((BitVec.ofInt 64 r &&& BitVec.ofInt 64 (IntKind.u64.wrap (((2 ^ Lib.bitLen (b - a) : Nat) : Int) - 1))).toNat : Int)))).toNat (at0 m (i : Int).toNat) = swp m i (a + k)
        rw [hn]
        rfl
    · show ARet _ _ _
      exact ⟨[(16, 16)], hp16 m, [], .nil, .old 16 16 _ _ _ rfl rfl (.data_eq rfl) .nil, rfl, rfl, m, rfl, hs⟩
end Go.Abs
