/- Walks: an object's first word, and the document's answer. -/
import Derived.Test.YtpkngagppfoccaaGreatDoorAbsBase1
set_option linter.all false
set_option linter.unusedVariables false
set_option linter.unusedSimpArgs false
namespace Go.Abs
open Go.Proofs Go.Proofs.YtpkngagppfoccaaGreatDoor
set_option maxRecDepth 8000

def Hd.zero : Hd := ⟨false, false, false, 0, 0, 0⟩
/-- May a head be? -/
def Hd.May (h : Hd) : Prop := if h.used = true then (0 ≤ h.n ∧ h.n ≤ 63) ∧ (0 ≤ h.born ∧ h.born ≤ 1048576) ∧ 0 ≤ h.mark ∧ h.mark ≤ 1048576 else h = Hd.zero
instance (h : Hd) : Decidable h.May := by unfold Hd.May; infer_instance
def b2i (b : Bool) : Int := if b = true then 1 else 0
/-- A head's word. -/
def Hd.word (h : Hd) : Int := b2i h.used + 2 * b2i h.old + 4 * b2i h.done + 8 * h.n + 1024 * h.born + 4294967296 * h.mark
/-- A word's head. -/
def hdOf (w : Int) : Hd := ⟨decide (w % 2 = 1), decide (w / 2 % 2 = 1), decide (w / 4 % 2 = 1), w / 8 % 128, w / 1024 % 4194304, w / 4294967296⟩
def unp (w : Int) : Hd := if (hdOf w).May then hdOf w else Hd.zero
def isHd (w : Int) : Bool := decide (hdOf w).May

theorem hdOf_word (w : Int) : (hdOf w).word = w := by
  unfold Hd.word hdOf b2i
  simp only [decide_eq_true_eq]
  have h1 : (if w % 2 = 1 then (1 : Int) else 0) = w % 2 := by split <;> omega
  have h2 : (if w / 2 % 2 = 1 then (1 : Int) else 0) = w / 2 % 2 := by split <;> omega
  have h3 : (if w / 4 % 2 = 1 then (1 : Int) else 0) = w / 4 % 2 := by split <;> omega
  rw [h1, h2, h3]
  omega

theorem word_range {h : Hd} (hm : h.May) : 0 ≤ h.word ∧ h.word ≤ 4503600701112832 := by
  obtain ⟨u, o, d, n, b, m⟩ := h
  unfold Hd.May at hm
  simp only at hm
  cases u with
  | false =>
    rw [if_neg (by simp)] at hm
    rw [hm]
    decide
  | true =>
    rw [if_pos rfl] at hm
    show 0 ≤ 1 + 2 * b2i o + 4 * b2i d + 8 * n + 1024 * b + 4294967296 * m ∧ 1 + 2 * b2i o + 4 * b2i d + 8 * n + 1024 * b + 4294967296 * m ≤ _
    have ho : b2i o = 0 ∨ b2i o = 1 := by cases o <;> simp [b2i]
    have hd : b2i d = 0 ∨ b2i d = 1 := by cases d <;> simp [b2i]
    omega

/-! Bits. -/
theorem ofInt_toNat (w : Int) : ((BitVec.ofInt 64 w).toNat : Int) = w % 18446744073709551616 := by
  rw [BitVec.toNat_ofInt]
  simp
  omega

theorem and_pow (x k : Nat) : x &&& 2 ^ k = if x.testBit k = true then 2 ^ k else 0 := by
  apply Nat.eq_of_testBit_eq
  intro i
  rw [Nat.testBit_and, Nat.testBit_two_pow]
  by_cases h : k = i
  · subst h
    split
    · rename_i h; simp [h]
    · rename_i h; simp [h]
  · split
    · rw [Nat.testBit_two_pow]; simp [h]
    · simp [h]

theorem and127 (w : Int) : IntKind.i64.wrap ((BitVec.ofInt IntKind.i64.bits w &&& BitVec.ofInt IntKind.i64.bits 127).toNat) = w % 128 := by
  have h := ofInt_toNat w
  have e2 : (BitVec.ofInt IntKind.i64.bits w &&& BitVec.ofInt IntKind.i64.bits 127).toNat = (BitVec.ofInt 64 w).toNat % 2 ^ 7 := by
    show (BitVec.ofInt 64 w &&& BitVec.ofInt 64 127).toNat = _
    rw [BitVec.toNat_and]
    exact Nat.and_two_pow_sub_one_eq_mod _ 7
  rw [e2, wrap64 (by omega) (by omega)]
  omega

theorem and22 (w : Int) : IntKind.i64.wrap ((BitVec.ofInt IntKind.i64.bits w &&& BitVec.ofInt IntKind.i64.bits 4194303).toNat) = w % 4194304 := by
  have h := ofInt_toNat w
  have e2 : (BitVec.ofInt IntKind.i64.bits w &&& BitVec.ofInt IntKind.i64.bits 4194303).toNat = (BitVec.ofInt 64 w).toNat % 2 ^ 22 := by
    show (BitVec.ofInt 64 w &&& BitVec.ofInt 64 4194303).toNat = _
    rw [BitVec.toNat_and]
    exact Nat.and_two_pow_sub_one_eq_mod _ 22
  rw [e2, wrap64 (by omega) (by omega)]
  omega

theorem bit0 (w : Int) : (IntKind.i64.wrap ((BitVec.ofInt IntKind.i64.bits w &&& BitVec.ofInt IntKind.i64.bits 1).toNat) != 0) = decide (w % 2 = 1) := by
  have h := ofInt_toNat w
  have e2 : (BitVec.ofInt IntKind.i64.bits w &&& BitVec.ofInt IntKind.i64.bits 1).toNat = if (BitVec.ofInt 64 w).toNat.testBit 0 = true then 2 ^ 0 else 0 := by
    show (BitVec.ofInt 64 w &&& BitVec.ofInt 64 1).toNat = _
    rw [BitVec.toNat_and]
    exact and_pow _ 0
  rw [e2, Nat.testBit_eq_decide_div_mod_eq]
  by_cases hb : (BitVec.ofInt 64 w).toNat / 2 ^ 0 % 2 = 1
  · rw [if_pos (decide_eq_true hb), decide_eq_true (by omega : w % 2 = 1)]; decide
  · rw [if_neg (by simpa using hb), decide_eq_false (by omega : ¬ w % 2 = 1)]; decide

theorem bit1 (w : Int) : (IntKind.i64.wrap ((BitVec.ofInt IntKind.i64.bits w &&& BitVec.ofInt IntKind.i64.bits 2).toNat) != 0) = decide (w / 2 % 2 = 1) := by
  have h := ofInt_toNat w
  have e2 : (BitVec.ofInt IntKind.i64.bits w &&& BitVec.ofInt IntKind.i64.bits 2).toNat = if (BitVec.ofInt 64 w).toNat.testBit 1 = true then 2 ^ 1 else 0 := by
    show (BitVec.ofInt 64 w &&& BitVec.ofInt 64 2).toNat = _
    rw [BitVec.toNat_and]
    exact and_pow _ 1
  rw [e2, Nat.testBit_eq_decide_div_mod_eq]
  by_cases hb : (BitVec.ofInt 64 w).toNat / 2 ^ 1 % 2 = 1
  · rw [if_pos (decide_eq_true hb), decide_eq_true (by omega : w / 2 % 2 = 1)]; decide
  · rw [if_neg (by simpa using hb), decide_eq_false (by omega : ¬ w / 2 % 2 = 1)]; decide

theorem bit2 (w : Int) : (IntKind.i64.wrap ((BitVec.ofInt IntKind.i64.bits w &&& BitVec.ofInt IntKind.i64.bits 4).toNat) != 0) = decide (w / 4 % 2 = 1) := by
  have h := ofInt_toNat w
  have e2 : (BitVec.ofInt IntKind.i64.bits w &&& BitVec.ofInt IntKind.i64.bits 4).toNat = if (BitVec.ofInt 64 w).toNat.testBit 2 = true then 2 ^ 2 else 0 := by
    show (BitVec.ofInt 64 w &&& BitVec.ofInt 64 4).toNat = _
    rw [BitVec.toNat_and]
    exact and_pow _ 2
  rw [e2, Nat.testBit_eq_decide_div_mod_eq]
  by_cases hb : (BitVec.ofInt 64 w).toNat / 2 ^ 2 % 2 = 1
  · rw [if_pos (decide_eq_true hb), decide_eq_true (by omega : w / 4 % 2 = 1)]; decide
  · rw [if_neg (by simpa using hb), decide_eq_false (by omega : ¬ w / 4 % 2 = 1)]; decide

/-- Two parts of a word that do not meet. -/
theorem or_add (k : Nat) (hk : k ≤ 62) {a b : Int} (ha : 0 ≤ a) (hak : a < (2 ^ k : Nat)) (hb : 0 ≤ b) (c : Nat) (hbc : b = ((2 ^ k * c : Nat) : Int)) (hs : a + b < 9223372036854775808) :
    IntKind.i64.wrap ((BitVec.ofInt IntKind.i64.bits a ||| BitVec.ofInt IntKind.i64.bits b).toNat) = a + b := by
  have h1 := ofInt_toNat a
  have h2 := ofInt_toNat b
  have hp : 2 ^ k ≤ 2 ^ 62 := Nat.pow_le_pow_right (by omega) hk
  have ea : (BitVec.ofInt 64 a).toNat = a.toNat := by omega
  have eb : (BitVec.ofInt 64 b).toNat = 2 ^ k * c := by omega
  have e : (BitVec.ofInt IntKind.i64.bits a ||| BitVec.ofInt IntKind.i64.bits b).toNat = 2 ^ k * c + a.toNat := by
    show (BitVec.ofInt 64 a ||| BitVec.ofInt 64 b).toNat = _
    rw [BitVec.toNat_or, ea, eb, Nat.or_comm]
    exact (Nat.two_pow_add_eq_or_of_lt (by omega) c).symm
  rw [e, wrap64 (by omega) (by omega)]
  omega

theorem hin_spec (n high : Int) : Spec X 106 [] [.int n, .int high] (Ret [] (.bo (decide (0 ≤ n ∧ n ≤ high)))) := by
  refine spec_go X_ok Tryz.f106 (by kernel_rfl) (by kernel_rfl) (by kernel_rfl) fun hb hH => ⟨rfl, ?_⟩
  show ARet _ _ _
  refine ret_bo (x := bif decide (n ≥ 0) then decide (n ≤ high) else false) ?_ ⟨rfl, rfl⟩
  by_cases h : 0 ≤ n <;> simp [h]

theorem hbit_spec (b : Bool) (n : Int) : Spec X 107 [] [.bo b, .int n] (Ret [] (.int (n * b2i b))) := by
  refine spec_go X_ok Tryz.f107 (by kernel_rfl) (by kernel_rfl) (by kernel_rfl) fun hb hH => ⟨rfl, ?_⟩
  show ABr (b) _ _
  refine ⟨fun h => ?_, fun h => ?_⟩
  · subst h
    show ARet _ _ _
    refine ret_int (x := n) ?_ ⟨rfl, rfl⟩
    simp [b2i]
  · subst h
    show ARet _ _ _
    refine ret_int (x := 0) ?_ ⟨rfl, rfl⟩
    simp [b2i]

theorem hMay_spec (h : Hd) : Spec X 80 [] [h.tv] (Ret [] (.bo (decide h.May))) := by
  refine spec_go X_ok Tryz.f80 (by kernel_rfl) (by kernel_rfl) (by kernel_rfl) fun hb hH => ⟨rfl, ?_⟩
  obtain ⟨u, o, d, n, b, m⟩ := h
  show ABr (!u) _ _
  refine ⟨fun h => ?_, fun h => ?_⟩
  · have hu : u = false := by simpa using h
    subst hu
    show ARet _ _ _
    refine ret_bo ?_ ⟨rfl, rfl⟩
    show (false == false && (o == false && (d == false && (n == 0 && (b == 0 && (m == 0 && true)))))) = _
    have e : (⟨false, o, d, n, b, m⟩ : Hd).May ↔ (o = false ∧ d = false ∧ n = 0 ∧ b = 0 ∧ m = 0) := by
      unfold Hd.May Hd.zero
      simp
    have e' : decide (⟨false, o, d, n, b, m⟩ : Hd).May = decide (o = false ∧ d = false ∧ n = 0 ∧ b = 0 ∧ m = 0) := by rw [decide_eq_decide]; exact e
    rw [e']
    by_cases h1 : n = 0 <;> by_cases h2 : b = 0 <;> by_cases h3 : m = 0 <;> cases o <;> cases d <;> simp [h1, h2, h3]
  · have hu : u = true := by simpa using h
    subst hu
    have e : (⟨true, o, d, n, b, m⟩ : Hd).May ↔ (0 ≤ n ∧ n ≤ 63) ∧ (0 ≤ b ∧ b ≤ 1048576) ∧ 0 ≤ m ∧ m ≤ 1048576 := by
      unfold Hd.May
      simp
    have e' : decide (⟨true, o, d, n, b, m⟩ : Hd).May = (decide (0 ≤ n ∧ n ≤ 63) && (decide (0 ≤ b ∧ b ≤ 1048576) && decide (0 ≤ m ∧ m ≤ 1048576))) := by
      rw [← Bool.decide_and, ← Bool.decide_and, decide_eq_decide]; exact e
    rw [e']
    show ACall _ _ _ _ _ _
    refine call_ret (hin_spec n 63) rfl ?_
    show AIf (decide (0 ≤ n ∧ n ≤ 63) = true ∧ True) _ _
    refine ⟨fun h1 => ?_, fun h1 => ?_⟩
    · show ACall _ _ _ _ _ _
      refine call_ret (hin_spec b 1048576) rfl ?_
      show AIf (decide (0 ≤ b ∧ b ≤ 1048576) = true ∧ True) _ _
      refine ⟨fun h2 => ?_, fun h2 => ?_⟩
      · show ACall _ _ _ _ _ _
        refine call_ret (hin_spec m 1048576) rfl ?_
        show ARet _ _ _
        refine ret_bo (x := decide (0 ≤ m ∧ m ≤ 1048576)) ?_ ⟨rfl, rfl⟩
        rw [h1.1, h2.1]
        rfl
      · have h2 : decide (0 ≤ b ∧ b ≤ 1048576) = false := Bool.eq_false_iff.2 fun h => h2 ⟨h, trivial⟩
        show AOb (decide (0 ≤ b ∧ b ≤ 1048576) = false) _
        refine ⟨h2, ?_⟩
        show ARet _ _ _
        refine ret_bo (x := false) ?_ ⟨rfl, rfl⟩
        rw [h2]
        simp
    · have h1 : decide (0 ≤ n ∧ n ≤ 63) = false := Bool.eq_false_iff.2 fun h => h1 ⟨h, trivial⟩
      show AOb (decide (0 ≤ n ∧ n ≤ 63) = false) _
      refine ⟨h1, ?_⟩
      show AIf (false = true ∧ True) _ _
      refine ⟨fun h => absurd h.1 (by simp), fun _ => ?_⟩
      show AOb (false = false) _
      refine ⟨rfl, ?_⟩
      show ARet _ _ _
      refine ret_bo (x := false) ?_ ⟨rfl, rfl⟩
      rw [h1]
      rfl

theorem shl_eq {n : Int} {k : Nat} {m : Int} (hm : (2 : Int) ^ (min (k : Int).toNat IntKind.i64.bits) = m) (h0 : 0 ≤ n) (h1 : n * m < 9223372036854775808) (hm0 : 0 ≤ m) : IntKind.i64.wrap (n * 2 ^ (min (k : Int).toNat IntKind.i64.bits)) = n * m := by
  rw [hm]
  have := Int.mul_nonneg h0 hm0
  exact wrap64 (by omega) h1

def orr (a b : Int) : Int := IntKind.i64.wrap ((BitVec.ofInt IntKind.i64.bits a ||| BitVec.ofInt IntKind.i64.bits b).toNat)

theorem hpack_spec (h : Hd) (hm : h.May) : Spec X 81 [] [h.tv] (Ret [] (.int h.word)) := by
  refine spec_go X_ok Tryz.f81 (by kernel_rfl) (by kernel_rfl) (by kernel_rfl) fun hb hH => ⟨rfl, ?_⟩
  obtain ⟨u, o, d, n, b, m⟩ := h
  have hr : (0 ≤ n ∧ n ≤ 63) ∧ (0 ≤ b ∧ b ≤ 1048576) ∧ 0 ≤ m ∧ m ≤ 1048576 := by
    unfold Hd.May at hm
    simp only at hm
    cases u with
    | true => rw [if_pos rfl] at hm; exact hm
    | false => rw [if_neg (by simp)] at hm; injection hm with _ _ _ e1 e2 e3; subst e1 e2 e3; omega
  have hbu : b2i u = 0 ∨ b2i u = 1 := by cases u <;> simp [b2i]
  have hbo : b2i o = 0 ∨ b2i o = 1 := by cases o <;> simp [b2i]
  have hbd : b2i d = 0 ∨ b2i d = 1 := by cases d <;> simp [b2i]
  show ADCall _ _ _ _ _ _
  refine .mk _ _ (hbit_spec u 1) rfl ?_
  show ADCall _ _ _ _ _ _
  refine .mk _ _ (hbit_spec o 2) rfl ?_
  show ADCall _ _ _ _ _ _
  refine .mk _ _ (hbit_spec d 4) rfl ?_
  show AOb _ _
  refine ⟨by decide, ?_⟩
  show AOb _ _
  refine ⟨by decide, ?_⟩
  show AOb _ _
  refine ⟨by decide, ?_⟩
  show ARet _ _ _
  refine ret_int (x := orr (orr (orr (orr (orr (1 * b2i u) (2 * b2i o)) (4 * b2i d)) (IntKind.i64.wrap (n * 2 ^ (min ((3 : Nat) : Int).toNat IntKind.i64.bits)))) (IntKind.i64.wrap (b * 2 ^ (min ((10 : Nat) : Int).toNat IntKind.i64.bits)))) (IntKind.i64.wrap (m * 2 ^ (min ((32 : Nat) : Int).toNat IntKind.i64.bits)))) ?_ ⟨rfl, rfl⟩
  rw [shl_eq (k := 3) (m := 8) (by decide) (by omega) (by omega) (by omega), shl_eq (k := 10) (m := 1024) (by decide) (by omega) (by omega) (by omega), shl_eq (k := 32) (m := 4294967296) (by decide) (by omega) (by omega) (by omega)]
  have e1 : orr (1 * b2i u) (2 * b2i o) = b2i u + 2 * b2i o := by
    have := or_add 1 (by omega) (a := 1 * b2i u) (b := 2 * b2i o) (by omega) (by omega) (by omega) (b2i o).toNat (by omega) (by omega)
    unfold orr; rw [this]; omega
  have e2 : orr (b2i u + 2 * b2i o) (4 * b2i d) = b2i u + 2 * b2i o + 4 * b2i d := or_add 2 (by omega) (by omega) (by omega) (by omega) (b2i d).toNat (by omega) (by omega)
  have e3 : orr (b2i u + 2 * b2i o + 4 * b2i d) (n * 8) = b2i u + 2 * b2i o + 4 * b2i d + n * 8 := or_add 3 (by omega) (by omega) (by omega) (by omega) n.toNat (by omega) (by omega)
  have e4 : orr (b2i u + 2 * b2i o + 4 * b2i d + n * 8) (b * 1024) = b2i u + 2 * b2i o + 4 * b2i d + n * 8 + b * 1024 := or_add 10 (by omega) (by omega) (by omega) (by omega) b.toNat (by omega) (by omega)
  have e5 : orr (b2i u + 2 * b2i o + 4 * b2i d + n * 8 + b * 1024) (m * 4294967296) = b2i u + 2 * b2i o + 4 * b2i d + n * 8 + b * 1024 + m * 4294967296 := or_add 32 (by omega) (by omega) (by omega) (by omega) m.toNat (by omega) (by omega)
  rw [e1, e2, e3, e4, e5]
  unfold Hd.word
  simp only
  omega

def packW (h : Hd) : Int := if h.May then h.word else 0
def packE (h : Hd) : Int := if h.May then 0 else 1

theorem hPack_spec (h : Hd) : Spec X 94 [] [h.tv] (Ret [] (.tup [.int (packW h), .int (packE h)])) := by
  refine spec_go X_ok Tryz.f94 (by kernel_rfl) (by kernel_rfl) (by kernel_rfl) fun hb hH => ⟨rfl, ?_⟩
  unfold packW packE
  show ACall _ _ _ _ _ _
  refine call_ret (hMay_spec h) rfl ?_
  show ABr (!decide h.May) _ _
  refine ⟨fun h1 => ?_, fun h1 => ?_⟩
  · have hm : ¬ h.May := by simpa using h1
    rw [if_neg hm, if_neg hm]
    show ARet _ _ _
    exact ret_d rfl ⟨rfl, rfl⟩
  · have hm : h.May := by simpa using h1
    rw [if_pos hm, if_pos hm]
    show ACall _ _ _ _ _ _
    refine call_ret (hpack_spec h hm) rfl ?_
    show ARet _ _ _
    exact ret_d rfl ⟨rfl, rfl⟩

def andd (a b : Int) : Int := IntKind.i64.wrap ((BitVec.ofInt IntKind.i64.bits a &&& BitVec.ofInt IntKind.i64.bits b).toNat)
def shrr (a : Int) (k : Nat) : Int := a.fdiv (2 ^ (min (k : Int).toNat IntKind.i64.bits))
/-- The head of a word, as it is told. -/
def rawHd (w : Int) : Hd := ⟨andd w 1 != 0, andd w 2 != 0, andd w 4 != 0, andd (shrr w 3) 127, andd (shrr w 10) 4194303, shrr w 32⟩

theorem shrr_eq {w : Int} {k : Nat} {m : Int} (hm : (2 : Int) ^ (min (k : Int).toNat IntKind.i64.bits) = m) (h : 0 ≤ m) : shrr w k = w / m := by
  unfold shrr
  rw [hm, Int.fdiv_eq_ediv_of_nonneg _ h]

theorem rawHd_eq (w : Int) : rawHd w = hdOf w := by
  unfold rawHd hdOf
  rw [shrr_eq (k := 3) (m := 8) (by decide) (by omega), shrr_eq (k := 10) (m := 1024) (by decide) (by omega), shrr_eq (k := 32) (m := 4294967296) (by decide) (by omega)]
  unfold andd
  rw [bit0, bit1, bit2, and127, and22]

theorem hUnpack_spec (w : Int) : Spec X 43 [] [.int w] (Ret [] (.tup [(unp w).tv, .bo (isHd w)])) := by
  refine spec_go X_ok Tryz.f43 (by kernel_rfl) (by kernel_rfl) (by kernel_rfl) fun hb hH => ⟨rfl, ?_⟩
  have hr := rawHd_eq w
  show AOb _ _
  refine ⟨by decide, ?_⟩
  show AOb _ _
  refine ⟨by decide, ?_⟩
  show AOb _ _
  refine ⟨by decide, ?_⟩
  show ACall _ _ _ _ _ _
  refine call_ret (hMay_spec (rawHd w)) rfl ?_
  unfold unp isHd
  rw [← hr]
  show AIf ((!decide (rawHd w).May) = false ∧ True) _ _
  refine ⟨fun h1 => ?_, fun h1 => ?_⟩
  · have hm : (rawHd w).May := by simpa using h1.1
    show ACall _ _ _ _ _ _
    refine call_ret (hpack_spec (rawHd w) hm) rfl ?_
    have ew : (rawHd w).word = w := by rw [hr]; exact hdOf_word w
    rw [if_pos hm]
    rw [decide_eq_true hm]
    show ABr ((rawHd w).word != w) _ _
    rw [ew]
    show ABr _ _ _
    refine ⟨fun h => absurd h (by simp), fun _ => ?_⟩
    show ARet _ _ _
    exact ret_d rfl ⟨rfl, rfl⟩
  · have hm : ¬ (rawHd w).May := fun hm => h1 ⟨by simp [hm], trivial⟩
    rw [if_neg hm]
    rw [decide_eq_false hm]
    show AOb _ _
    refine ⟨by decide, ?_⟩
    show ABr _ _ _
    refine ⟨fun _ => ?_, fun h => absurd h (by decide)⟩
    show ARet _ _ _
    exact ret_d rfl ⟨rfl, rfl⟩

/-! The document's. -/
theorem may_nat {u o d : Bool} {n b m : Int} (hn : ¬ n < 0) (hn' : ¬ n > 63) (hb : ¬ b < 0) (hb' : ¬ b > 1048576) (hm : ¬ m < 0) (hm' : ¬ m > 1048576) :
    (⟨u, o, d, n, b, m⟩ : Hd).May ↔ (u = true ∨ (o = false ∧ d = false ∧ n = 0 ∧ b = 0 ∧ m = 0)) := by
  unfold Hd.May Hd.zero
  cases u
  · simp
  · simp; omega

theorem may_range {h : Hd} (hm : h.May) : (0 ≤ h.n ∧ h.n ≤ 63) ∧ (0 ≤ h.born ∧ h.born ≤ 1048576) ∧ 0 ≤ h.mark ∧ h.mark ≤ 1048576 := by
  obtain ⟨u, o, d, n, b, m⟩ := h
  unfold Hd.May Hd.zero at hm
  cases u
  · simp at hm; simp; omega
  · simpa using hm

theorem rhMay_spec (h : Hd) : Spec X 74 [] [h.tv] (Ret [] (.bo (decide h.May))) := by
  refine spec_go X_ok Tryz.f74 (by kernel_rfl) (by kernel_rfl) (by kernel_rfl) fun hb hH => ⟨rfl, ?_⟩
  obtain ⟨u, o, d, n, b, m⟩ := h
  show ABr ((bif bif bif bif bif decide (n < 0) then true else decide (n > 63) then true else decide (b < 0) then true else decide (b > 1048576) then true else decide (m < 0) then true else decide (m > 1048576))) _ _
  refine ⟨fun h => ?_, fun h => ?_⟩
  · show ARet _ _ _
    refine ret_bo (x := false) ?_ ⟨rfl, rfl⟩
    symm
    apply decide_eq_false
    intro hm
    have := may_range hm
    simp only [Bool.cond_eq_if, if_true, Bool.if_true_left, Bool.or_eq_true, decide_eq_true_eq] at h this
    omega
  · have h' : ¬ (n < 0 ∨ n > 63 ∨ b < 0 ∨ b > 1048576 ∨ m < 0 ∨ m > 1048576) := by
      simp at h
      omega
    have e := may_nat (u := u) (o := o) (d := d) (n := n) (b := b) (m := m) (by omega) (by omega) (by omega) (by omega) (by omega) (by omega)
    have e' : decide (⟨u, o, d, n, b, m⟩ : Hd).May = decide (u = true ∨ (o = false ∧ d = false ∧ n = 0 ∧ b = 0 ∧ m = 0)) := decide_eq_decide.2 e
    rw [e']
    show ARet _ _ _
    refine ret_bo (x := bif u then true else (bif (bif (bif (bif !o then !d else false) then n == 0 else false) then b == 0 else false) then m == 0 else false)) ?_ ⟨rfl, rfl⟩
    by_cases h1 : n = 0 <;> by_cases h2 : b = 0 <;> by_cases h3 : m = 0 <;> cases u <;> cases o <;> cases d <;> simp [h1, h2, h3]

theorem hd_zero_of (w : Int) (h : w = 0) : unp w = Hd.zero ∧ isHd w = true := by subst h; decide
theorem hd_not_of (w : Int) (h : w < 0 ∨ w % 2 = 0) (h0 : w ≠ 0) : ¬ (hdOf w).May := by
  intro hm
  have hw := word_range hm
  rw [hdOf_word] at hw
  have he := hdOf_word w
  unfold Hd.May at hm
  have hu : (hdOf w).used = false := by
    show decide (w % 2 = 1) = false
    exact decide_eq_false (by omega)
  rw [if_neg (by simp [hu])] at hm
  rw [hm] at he
  exact h0 (he.symm.trans (by decide))

theorem neg_or_even (w : Int) : (bif decide (w < 0) then true else w.tmod 2 == 0) = decide (w < 0 ∨ w % 2 = 0) := by
  by_cases h : w < 0
  · simp [h]
  · rw [Int.tmod_eq_emod_of_nonneg (by omega)]
    by_cases h2 : w % 2 = 0 <;> simp [h, h2]

def tdv (w d : Int) : Int := IntKind.i64.wrap (w.tdiv d)
theorem tdv_eq {w d : Int} (h : 0 ≤ w) (hd : 1 ≤ d) (hw : w < 9223372036854775808) : tdv w d = w / d := by
  unfold tdv
  rw [Int.tdiv_eq_ediv_of_nonneg h]
  have h1 := Int.ediv_nonneg h (by omega : 0 ≤ d)
  have h2 := Int.ediv_le_self d h
  exact wrap64 (by omega) (by omega)

def rawHd2 (w : Int) : Hd := ⟨true, (tdv w 2).tmod 2 == 1, (tdv w 4).tmod 2 == 1, (tdv w 8).tmod 128, (tdv w 1024).tmod 4194304, tdv w 4294967296⟩
theorem rawHd2_eq {w : Int} (h : 0 < w) (ho : w % 2 = 1) (hw : w < 9223372036854775808) : rawHd2 w = hdOf w := by
  unfold rawHd2 hdOf
  have hd (d : Int) (hd : 1 ≤ d) : 0 ≤ w / d := Int.ediv_nonneg (by omega) (by omega)
  rw [tdv_eq (by omega) (by omega) hw, tdv_eq (by omega) (by omega) hw, tdv_eq (by omega) (by omega) hw, tdv_eq (by omega) (by omega) hw, tdv_eq (by omega) (by omega) hw,
    Int.tmod_eq_emod_of_nonneg (hd 2 (by omega)), Int.tmod_eq_emod_of_nonneg (hd 4 (by omega)), Int.tmod_eq_emod_of_nonneg (hd 8 (by omega)), Int.tmod_eq_emod_of_nonneg (hd 1024 (by omega)), decide_eq_true ho]
  rfl

theorem rUnpack_spec (w : Int) (hw : w < 9223372036854775808) : Spec X 73 [] [.int w] (Ret [] (.tup [(unp w).tv, .bo (isHd w)])) := by
  refine spec_go X_ok Tryz.f73 (by kernel_rfl) (by kernel_rfl) (by kernel_rfl) fun hb hH => ⟨rfl, ?_⟩
  show ABr (w == 0) _ _
  refine ⟨fun h => ?_, fun h => ?_⟩
  · have h : w = 0 := by simpa using h
    rw [(hd_zero_of w h).1, (hd_zero_of w h).2]
    show ARet _ _ _
    exact ret_d rfl ⟨rfl, rfl⟩
  · have h0 : w ≠ 0 := by simpa using h
    show AOb _ _
    refine ⟨by simp, ?_⟩
    show ABr ((bif decide (w < 0) then true else w.tmod 2 == 0)) _ _
    refine ⟨fun h => ?_, fun h => ?_⟩
    · rw [neg_or_even] at h
      have hn : ¬ (hdOf w).May := hd_not_of w (of_decide_eq_true h) h0
      unfold unp isHd
      rw [if_neg hn, decide_eq_false hn]
      show ARet _ _ _
      exact ret_d rfl ⟨rfl, rfl⟩
    · rw [neg_or_even] at h
      have h := of_decide_eq_false h
      have hr := rawHd2_eq (w := w) (by omega) (by omega) hw
      unfold unp isHd
      rw [← hr]
      show AOb _ _
      refine ⟨by decide, ?_⟩
      show AOb _ _
      refine ⟨by decide, ?_⟩
      show AOb _ _
      refine ⟨by decide, ?_⟩
      show AOb _ _
      refine ⟨by decide, ?_⟩
      show AOb _ _
      refine ⟨by decide, ?_⟩
      show AOb _ _
      refine ⟨by decide, ?_⟩
      show AOb _ _
      refine ⟨by decide, ?_⟩
      show AOb _ _
      refine ⟨by decide, ?_⟩
      show AOb _ _
      refine ⟨by decide, ?_⟩
      show ACall _ _ _ _ _ _
      refine call_ret (rhMay_spec (rawHd2 w)) rfl ?_
      show ABr (!decide (rawHd2 w).May) _ _
      refine ⟨fun h => ?_, fun h => ?_⟩
      · have hm : ¬ (rawHd2 w).May := by simpa using h
        rw [if_neg hm, decide_eq_false hm]
        show ARet _ _ _
        exact ret_d rfl ⟨rfl, rfl⟩
      · have hm : (rawHd2 w).May := by simpa using h
        rw [if_pos hm, decide_eq_true hm]
        show ARet _ _ _
        exact ret_d rfl ⟨rfl, rfl⟩
end Go.Abs
