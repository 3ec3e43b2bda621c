/- Walks: how much room an object takes, and the document's answer. -/
import Derived.Test.YtpkngagppfoccaaGreatDoorAbsBase1
import Derived.Test.YtpkngagppfoccaaGreatDoorWSort
set_option linter.all false
set_option linter.unusedVariables false
set_option linter.unusedSimpArgs false
namespace Go.Abs
open Go.Proofs Go.Proofs.YtpkngagppfoccaaGreatDoor
set_option maxRecDepth 8000

/-- How many words cells of a class have. -/
def clsW (c : Int) : Int := if c = 0 then 2 else if c = 1 then 4 else if c = 2 then 8 else 0
def clsN (c : Int) : Int := if c = 0 then 8 else if c = 1 then 4 else if c = 2 then 2 else 0
/-- The class of so many fields, and the error. -/
def clsOf (n : Int) : Int := if n < 1 ∨ n > 63 then 0 else if n ≤ 1 then 0 else if n ≤ 3 then 1 else if n ≤ 7 then 2 else 3
def clsE (n : Int) : Int := if n < 1 then 1 else if n > 63 then 2 else 0
def runOf (n : Int) : Int := if clsE n ≠ 0 then 0 else if clsOf n < 3 then 0 else n / 16 + 1
def runE (n : Int) : Int := if clsE n ≠ 0 then clsE n else if clsOf n < 3 then 3 else 0

theorem cWords_spec (c : Int) : Spec X 128 [] [.int c] (Ret [] (.int (clsW c))) := by
  refine spec_go X_ok Tryz.f128 (by kernel_rfl) (by kernel_rfl) (by kernel_rfl) fun hb hH => ⟨rfl, ?_⟩
  show ABr (bif decide (c < 0) then true else decide (c ≥ 3)) _ _
  refine ⟨fun h => ?_, fun h => ?_⟩
  · show ARet _ _ _
    refine ret_int (x := 0) ?_ ⟨rfl, rfl⟩
    simp at h
    unfold clsW
    repeat (split; omega)
    rfl
  · have hc : c = 0 ∨ c = 1 ∨ c = 2 := by simp at h; omega
    show AOb _ _
    refine ⟨by constructor <;> (rcases hc with rfl | rfl | rfl <;> decide), ?_⟩
    rcases hc with rfl | rfl | rfl
    · show ARet _ _ _
      exact ret_int (x := 2) rfl ⟨rfl, rfl⟩
    · show ARet _ _ _
      exact ret_int (x := 4) rfl ⟨rfl, rfl⟩
    · show ARet _ _ _
      exact ret_int (x := 8) rfl ⟨rfl, rfl⟩

theorem cCells_spec (c : Int) : Spec X 129 [] [.int c] (Ret [] (.int (clsN c))) := by
  refine spec_go X_ok Tryz.f129 (by kernel_rfl) (by kernel_rfl) (by kernel_rfl) fun hb hH => ⟨rfl, ?_⟩
  show ACall _ _ _ _ _ _
  refine call_ret (cWords_spec c) rfl ?_
  show ABr (decide (clsW c = 0)) _ _
  refine ⟨fun h => ?_, fun h => ?_⟩
  · show ARet _ _ _
    refine ret_int (x := 0) ?_ ⟨rfl, rfl⟩
    simp [clsW] at h
    unfold clsN
    split
    · simp_all
    · split
      · simp_all
      · split
        · simp_all
        · rfl
  · show AOb _ _
    refine ⟨by simpa using h, ?_⟩
    show ARet _ _ _
    refine ret_int (x := IntKind.i64.wrap ((16 : Int).tdiv (clsW c))) ?_ ⟨rfl, rfl⟩
    unfold clsN
    unfold clsW at h ⊢
    split
    · rfl
    · split
      · rfl
      · split
        · rfl
        · simp_all
/-- Where it stands among 2, 4 and 8. -/
def bsIdx (x : Int) : Int := if x ≤ 2 then 0 else if x ≤ 4 then 1 else if x ≤ 8 then 2 else 3

def BsQ (i : Int) : Heap → TV → Prop := fun H r => H = [] ∧ ∃ b : Bool, r = .tup [.int i, .bo b]

theorem isNaNs_spec (x : Int) : Spec X 125 [] [.int x] (Ret [] (.bo false)) := by
  refine spec_go X_ok Tryz.f125 (by kernel_rfl) (by kernel_rfl) (by kernel_rfl) fun hb hH => ⟨rfl, ?_⟩
  show ARet _ _ _
  refine ret_bo (x := !decide (x = x)) ?_ ⟨rfl, rfl⟩
  simp

theorem half64 {a : Nat} (h : a ≤ 2 * maxN) : IntKind.i64.wrap ((IntKind.u64.wrap (a : Int)).fdiv (2 ^ min (Int.toNat 1) IntKind.u64.bits)) = ((a / 2 : Nat) : Int) := by
  have e : (2 : Int) ^ min (Int.toNat 1) IntKind.u64.bits = 2 := by decide
  rw [e]
  unfold maxN at h
  have e1 : IntKind.u64.wrap (a : Int) = (a : Int) := by
    unfold IntKind.wrap
    simp [IntKind.bits, IntKind.signed]
    omega
  rw [e1, Int.fdiv_eq_ediv_of_nonneg _ (by omega), wrap64 (by omega) (by omega)]
  omega

/-- Where it would stand in what is sorted. -/
def BsP (l : List Int) (x : Int) (i : Nat) : Prop := i ≤ l.length ∧ (∀ j, j < i → at0 l j < x) ∧ ∀ j, i ≤ j → j < l.length → x ≤ at0 l j

theorem bsl_spec (l : List Int) (x : Int) (hs : ∀ i j, i ≤ j → j < l.length → at0 l i ≤ at0 l j) : Spec X 110 [] [.c (.d (.sl .int l)), .int x] (fun H r => ∃ i, BsP l x i ∧ BsQ (i : Int) H r) := by
  refine spec_go X_ok Tryz.f110 (by kernel_rfl) (by kernel_rfl) (by kernel_rfl) fun hb hH => ⟨rfl, ?_⟩
  have hla : l.length ≤ maxN := (hb (.c (.d (.sl .int l))) (by simp)).1
  unfold maxN at hla
  show ∃ n, _
  refine ⟨0, ALoop.inv (ι := {p : Nat × Nat // p.1 ≤ p.2 ∧ p.2 ≤ l.length ∧ (∀ j, j < p.1 → at0 l j < x) ∧ ∀ j, p.2 ≤ j → j < l.length → x ≤ at0 l j}) (fun p => ⟨[(0, .c (.d (.sl .int l))), (1, .int x), (6, .int l.length), (7, .int p.1.1), (8, .int p.1.2)], [], 32⟩) (fun p => p.1.2 - p.1.1) ⟨(0, l.length), Nat.zero_le _, Nat.le_refl _, fun j hj => by omega, fun j h1 h2 => by have h1 : l.length ≤ j := h1; omega⟩ ?_ ?_⟩
  · exact ⟨[], .cons _ _ _ .same (.cons _ _ _ .same (.cons _ _ _ .same (.cons _ _ _ .same (.cons _ _ _ .same .nil)))), .nil, rfl⟩
  · rintro ⟨⟨a, b⟩, hab, hbl, hlo, hhi⟩
    have hab : a ≤ b := hab
    have hbl : b ≤ l.length := hbl
    have hlo : ∀ j, j < a → at0 l j < x := hlo
    have hhi : ∀ j, b ≤ j → j < l.length → x ≤ at0 l j := hhi
    show ABr (decide ((a : Int) < (b : Int))) _ _
    refine ⟨fun h => ?_, fun h => ?_⟩
    · have hlt : a < b := by simpa using h
      have hw : IntKind.i64.wrap ((IntKind.u64.wrap (IntKind.i64.wrap ((a : Int) + b))).fdiv (2 ^ min (Int.toNat 1) IntKind.u64.bits)) = (((a + b) / 2 : Nat) : Int) := by
        rw [wrap64 (n := (a : Int) + b) (by omega) (by omega)]
        exact half64 (a := a + b) (by unfold maxN; omega)
      show AOb ((0 : Int) ≤ 1) _
      refine ⟨by decide, ?_⟩
      show AOb (0 ≤ IntKind.i64.wrap ((IntKind.u64.wrap (IntKind.i64.wrap ((a : Int) + b))).fdiv (2 ^ min (Int.toNat 1) IntKind.u64.bits)) ∧ IntKind.i64.wrap ((IntKind.u64.wrap (IntKind.i64.wrap ((a : Int) + b))).fdiv (2 ^ min (Int.toNat 1) IntKind.u64.bits)) < (l.length : Int)) _
      refine ⟨by rw [hw]; omega, ?_⟩
      show ACall _ _ _ _ _ _
      refine call_ret (Less_spec _ _) rfl ?_
      show ABr (decide (at0 l (IntKind.i64.wrap ((IntKind.u64.wrap (IntKind.i64.wrap ((a : Int) + b))).fdiv (2 ^ min (Int.toNat 1) IntKind.u64.bits))).toNat < x)) _ _
      refine ⟨fun h => ?_, fun h => ?_⟩
      · rw [hw] at h
        rw [show (((a + b) / 2 : Nat) : Int).toNat = (a + b) / 2 from rfl] at h
        have h : at0 l ((a + b) / 2) < x := of_decide_eq_true h
        show ARound _ _ _ _
        refine ⟨⟨((a + b) / 2 + 1, b), by show (a + b) / 2 + 1 ≤ b; omega, hbl, fun j hj => ?_, hhi⟩, by show b - ((a + b) / 2 + 1) < b - a; omega, [], .cons _ _ _ .same (.cons _ _ _ .same (.cons _ _ _ .same (.cons _ _ _ (.int_eq ?_) (.cons _ _ _ .same .nil)))), .nil, rfl⟩
        · have hj : j < (a + b) / 2 + 1 := hj
          have := hs j ((a + b) / 2) (by omega) (by omega)
          omega
        · rw [hw, wrap64 (by omega) (by omega)]
          show ((((a + b) / 2 : Nat) : Int) + 1) = (((a + b) / 2 + 1 : Nat) : Int)
          omega
      · rw [hw] at h
        rw [show (((a + b) / 2 : Nat) : Int).toNat = (a + b) / 2 from rfl] at h
        have h : x ≤ at0 l ((a + b) / 2) := Int.not_lt.1 (of_decide_eq_false h)
        show ARound _ _ _ _
        refine ⟨⟨(a, (a + b) / 2), by show a ≤ (a + b) / 2; omega, by show (a + b) / 2 ≤ l.length; omega, hlo, fun j hj h2 => ?_⟩, by show (a + b) / 2 - a < b - a; omega, [], .cons _ _ _ .same (.cons _ _ _ .same (.cons _ _ _ .same (.cons _ _ _ .same (.cons _ _ _ (.int_eq hw) .nil)))), .nil, rfl⟩
        have hj : (a + b) / 2 ≤ j := hj
        have := hs ((a + b) / 2) j hj h2
        omega
    · have heq : a = b := by simp at h; omega
      subst heq
      have fin : ∀ (v : Bool), (fun H r => ∃ i, BsP l x i ∧ BsQ (i : Int) H r) [] (.tup [.int (a : Int), .bo v]) := fun v => ⟨a, ⟨hbl, hlo, hhi⟩, rfl, v, rfl⟩
      show AOb (decide ((a : Int) < (l.length : Int)) = true ∧ True → (0 : Int) ≤ (a : Int) ∧ (a : Int) < (l.length : Int)) _
      refine ⟨fun h => by simp at h; omega, ?_⟩
      show AOb ((at0 l (a : Int).toNat == x) = false ∧ decide ((a : Int) < (l.length : Int)) = true ∧ True → (0 : Int) ≤ (a : Int) ∧ (a : Int) < (l.length : Int)) _
      refine ⟨fun h => by have := h.2.1; simp at this; omega, ?_⟩
      show AIf _ _ _
      refine ⟨fun h => ?_, fun h => ?_⟩
      · show ACall _ _ _ _ _ _
        refine call_ret (isNaNs_spec _) rfl ?_
        show AIf _ _ _
        refine ⟨fun h => absurd h.1 (by decide), fun _ => ?_⟩
        show AOb (false = false) _
        refine ⟨rfl, ?_⟩
        show ARet _ _ _
        exact ret_d rfl (fin _)
      · show AOb (decide ((a : Int) < (l.length : Int)) = true ∧ True → (at0 l (a : Int).toNat == x) = true) _
        refine ⟨fun h2 => ?_, ?_⟩
        · cases hq : at0 l (a : Int).toNat == x with
          | true => rfl
          | false => exact absurd ⟨hq, h2.1, trivial⟩ h
        show ARet _ _ _
        exact ret_d rfl (fin _)

theorem bs248 (x : Int) {i : Nat} (h : BsP ([2, 4, 8] : List Int) x i) : (i : Int) = bsIdx x := by
  obtain ⟨h1, h2, h3⟩ := h
  have h1 : i ≤ 3 := h1
  unfold bsIdx
  have e0 : at0 ([2, 4, 8] : List Int) 0 = 2 := rfl
  have e1 : at0 ([2, 4, 8] : List Int) 1 = 4 := rfl
  have e2 : at0 ([2, 4, 8] : List Int) 2 = 8 := rfl
  have hi : i = 0 ∨ i = 1 ∨ i = 2 ∨ i = 3 := by omega
  have g : ∀ j, j < 3 → (j < i → at0 ([2, 4, 8] : List Int) j < x) ∧ (i ≤ j → x ≤ at0 ([2, 4, 8] : List Int) j) := fun j hj => ⟨h2 j, fun h => h3 j h hj⟩
  have g0 := g 0 (by omega)
  have g1 := g 1 (by omega)
  have g2 := g 2 (by omega)
  rw [e0] at g0
  rw [e1] at g1
  rw [e2] at g2
  rcases hi with rfl | rfl | rfl | rfl <;> simp at g0 g1 g2 <;> (repeat (split <;> try omega))

theorem sorted248 : ∀ i j, i ≤ j → j < ([2, 4, 8] : List Int).length → at0 ([2, 4, 8] : List Int) i ≤ at0 ([2, 4, 8] : List Int) j := by
  intro i j hij hj
  have hj : j < 3 := hj
  have hj' : j = 0 ∨ j = 1 ∨ j = 2 := by omega
  have hi' : i = 0 ∨ i = 1 ∨ i = 2 := by omega
  have e0 : at0 ([2, 4, 8] : List Int) 0 = 2 := rfl
  have e1 : at0 ([2, 4, 8] : List Int) 1 = 4 := rfl
  have e2 : at0 ([2, 4, 8] : List Int) 2 = 8 := rfl
  rcases hj' with rfl | rfl | rfl <;> rcases hi' with rfl | rfl | rfl <;> first | omega | (rw [e0, e1]; omega) | (rw [e0, e2]; omega) | (rw [e1, e2]; omega) | (exact Int.le_refl _)

theorem cOf_spec (n : Int) : Spec X 85 [] [.int n] (Ret [] (.tup [.int (clsOf n), .int (clsE n)])) := by
  refine spec_go X_ok Tryz.f85 (by kernel_rfl) (by kernel_rfl) (by kernel_rfl) fun hb hH => ⟨rfl, ?_⟩
  show ABr (decide (n < 1)) _ _
  refine ⟨fun h => ?_, fun h => ?_⟩
  · have h : n < 1 := by simpa using h
    have e1 : clsOf n = 0 := by unfold clsOf; rw [if_pos (.inl h)]
    have e2 : clsE n = 1 := by unfold clsE; rw [if_pos h]
    rw [e1, e2]
    show ARet _ _ _
    exact ret_d rfl ⟨rfl, rfl⟩
  · have h1 : ¬ n < 1 := by simpa using h
    show ABr (decide (n > 63)) _ _
    refine ⟨fun h => ?_, fun h => ?_⟩
    · have h : n > 63 := by simpa using h
      have e1 : clsOf n = 0 := by unfold clsOf; rw [if_pos (.inr h)]
      have e2 : clsE n = 2 := by unfold clsE; rw [if_neg h1, if_pos h]
      rw [e1, e2]
      show ARet _ _ _
      exact ret_d rfl ⟨rfl, rfl⟩
    · have h2 : ¬ n > 63 := by simpa using h
      have e1 : clsOf n = bsIdx (n + 1) := by
        unfold clsOf bsIdx
        rw [if_neg (fun h => h.elim h1 h2)]
        repeat (split <;> try omega)
        all_goals (repeat (split <;> try omega))
      have e2 : clsE n = 0 := by unfold clsE; rw [if_neg h1, if_neg h2]
      rw [e1, e2]
      have hw : IntKind.i64.wrap (n + 1) = n + 1 := wrap64 (by omega) (by omega)
      show ACall _ _ _ _ _ _
      refine .mk _ (bsl_spec ([2, 4, 8] : List Int) (IntKind.i64.wrap (n + 1)) sorted248) ?_
      rintro H r ⟨i, hp, rfl, b, rfl⟩ _ _
      refine ⟨.inr ⟨rfl, rfl⟩, ?_⟩
      rw [hw] at hp
      show ARet _ _ [.int (i : Int), .int 0]
      rw [bs248 _ hp]
      exact ret_d rfl ⟨rfl, rfl⟩

theorem cRun_spec (n : Int) (hn : n ≤ 9223372036854775807) : Spec X 84 [] [.int n] (Ret [] (.tup [.int (runOf n), .int (runE n)])) := by
  refine spec_go X_ok Tryz.f84 (by kernel_rfl) (by kernel_rfl) (by kernel_rfl) fun hb hH => ⟨rfl, ?_⟩
  show ACall _ _ _ _ _ _
  refine call_ret (cOf_spec n) rfl ?_
  show ABr (clsE n != 0) _ _
  refine ⟨fun h => ?_, fun h => ?_⟩
  · have h : clsE n ≠ 0 := by simpa using h
    have e1 : runOf n = 0 := by unfold runOf; rw [if_pos h]
    have e2 : runE n = clsE n := by unfold runE; rw [if_pos h]
    rw [e1, e2]
    show ARet _ _ _
    exact ret_d rfl ⟨rfl, rfl⟩
  · have h0 : clsE n = 0 := by simpa using h
    have hr : 1 ≤ n ∧ n ≤ 63 := by unfold clsE at h0; split at h0; cases h0; split at h0; cases h0; omega
    show ABr (decide (clsOf n < 3)) _ _
    refine ⟨fun h => ?_, fun h => ?_⟩
    · have h : clsOf n < 3 := by simpa using h
      have e1 : runOf n = 0 := by unfold runOf; rw [if_neg (fun h => h h0), if_pos h]
      have e2 : runE n = 3 := by unfold runE; rw [if_neg (fun h => h h0), if_pos h]
      rw [e1, e2]
      show ARet _ _ _
      exact ret_d rfl ⟨rfl, rfl⟩
    · have h : ¬ clsOf n < 3 := by simpa using h
      have e1 : runOf n = n / 16 + 1 := by unfold runOf; rw [if_neg (fun h => h h0), if_neg h]
      have e2 : runE n = 0 := by unfold runE; rw [if_neg (fun h => h h0), if_neg h]
      rw [e1, e2]
      show AOb _ _
      refine ⟨by decide, ?_⟩
      show ARet _ _ [.int (IntKind.i64.wrap (IntKind.i64.wrap (n.tdiv 16) + 1)), .int 0]
      have e3 : IntKind.i64.wrap (IntKind.i64.wrap (n.tdiv 16) + 1) = n / 16 + 1 := by
        rw [Int.tdiv_eq_ediv_of_nonneg (by omega), wrap64 (n := n / 16) (by omega) (by omega), wrap64 (by omega) (by omega)]
      rw [e3]
      exact ret_d rfl ⟨rfl, rfl⟩

/-! The document's. -/
theorem rWords_spec (c : Int) : Spec X 102 [] [.int c] (Ret [] (.int (clsW c))) := by
  refine spec_go X_ok Tryz.f102 (by kernel_rfl) (by kernel_rfl) (by kernel_rfl) fun hb hH => ⟨rfl, ?_⟩
  unfold clsW
  show ABr (decide (c = 0)) _ _
  refine ⟨fun h => ?_, fun h => ?_⟩
  · rw [if_pos (by simpa using h)]
    show ARet _ _ _
    exact ret_d rfl ⟨rfl, rfl⟩
  · rw [if_neg (by simpa using h)]
    show ABr (decide (c = 1)) _ _
    refine ⟨fun h => ?_, fun h => ?_⟩
    · rw [if_pos (by simpa using h)]
      show ARet _ _ _
      exact ret_d rfl ⟨rfl, rfl⟩
    · rw [if_neg (by simpa using h)]
      show ABr (decide (c = 2)) _ _
      refine ⟨fun h => ?_, fun h => ?_⟩
      · rw [if_pos (by simpa using h)]
        show ARet _ _ _
        exact ret_d rfl ⟨rfl, rfl⟩
      · rw [if_neg (by simpa using h)]
        show ARet _ _ _
        exact ret_d rfl ⟨rfl, rfl⟩

theorem rOf_spec (n : Int) : Spec X 99 [] [.int n] (Ret [] (.tup [.int (clsOf n), .int (clsE n)])) := by
  refine spec_go X_ok Tryz.f99 (by kernel_rfl) (by kernel_rfl) (by kernel_rfl) fun hb hH => ⟨rfl, ?_⟩
  show ABr (decide (n < 1)) _ _
  refine ⟨fun h => ?_, fun h => ?_⟩
  · have h : n < 1 := by simpa using h
    have e1 : clsOf n = 0 := by unfold clsOf; rw [if_pos (.inl h)]
    have e2 : clsE n = 1 := by unfold clsE; rw [if_pos h]
    rw [e1, e2]
    show ARet _ _ _
    exact ret_d rfl ⟨rfl, rfl⟩
  · have h1 : ¬ n < 1 := by simpa using h
    show ABr (decide (n > 63)) _ _
    refine ⟨fun h => ?_, fun h => ?_⟩
    · have h : n > 63 := by simpa using h
      have e1 : clsOf n = 0 := by unfold clsOf; rw [if_pos (.inr h)]
      have e2 : clsE n = 2 := by unfold clsE; rw [if_neg h1, if_pos h]
      rw [e1, e2]
      show ARet _ _ _
      exact ret_d rfl ⟨rfl, rfl⟩
    · have h2 : ¬ n > 63 := by simpa using h
      have e2 : clsE n = 0 := by unfold clsE; rw [if_neg h1, if_neg h2]
      have hw : IntKind.i64.wrap (n + 1) = n + 1 := wrap64 (by omega) (by omega)
      rw [e2]
      have hc : ∀ {b : Bool}, True := trivial
      show ∃ n, _
      refine ⟨4, .next ?_⟩
      show ABr _ _ _
      refine ⟨fun _ => ?_, fun h => absurd h (by decide)⟩
      show ACall _ _ _ _ _ _
      refine call_ret (rWords_spec 0) rfl ?_
      show ABr (decide (clsW 0 ≥ IntKind.i64.wrap (n + 1))) _ _
      refine ⟨fun h => ?_, fun h => ?_⟩
      · rw [hw] at h
        have h : 2 ≥ n + 1 := of_decide_eq_true h
        rw [show clsOf n = 0 from by unfold clsOf; rw [if_neg (fun h => h.elim h1 h2), if_pos (by omega)]]
        show ARet _ _ _
        exact ret_d rfl ⟨rfl, rfl⟩
      · rw [hw] at h
        have h3 : ¬ 2 ≥ n + 1 := of_decide_eq_false h
        show ALoop _ _ _ _
        refine .next ?_
        show ABr _ _ _
        refine ⟨fun _ => ?_, fun h => absurd h (by decide)⟩
        show ACall _ _ _ _ _ _
        refine call_ret (rWords_spec 1) rfl ?_
        show ABr (decide (clsW 1 ≥ IntKind.i64.wrap (n + 1))) _ _
        refine ⟨fun h => ?_, fun h => ?_⟩
        · rw [hw] at h
          have h : 4 ≥ n + 1 := of_decide_eq_true h
          rw [show clsOf n = 1 from by unfold clsOf; rw [if_neg (fun h => h.elim h1 h2), if_neg (by omega), if_pos (by omega)]]
          show ARet _ _ _
          exact ret_d rfl ⟨rfl, rfl⟩
        · rw [hw] at h
          have h4 : ¬ 4 ≥ n + 1 := of_decide_eq_false h
          show ALoop _ _ _ _
          refine .next ?_
          show ABr _ _ _
          refine ⟨fun _ => ?_, fun h => absurd h (by decide)⟩
          show ACall _ _ _ _ _ _
          refine call_ret (rWords_spec 2) rfl ?_
          show ABr (decide (clsW 2 ≥ IntKind.i64.wrap (n + 1))) _ _
          refine ⟨fun h => ?_, fun h => ?_⟩
          · rw [hw] at h
            have h : 8 ≥ n + 1 := of_decide_eq_true h
            rw [show clsOf n = 2 from by unfold clsOf; rw [if_neg (fun h => h.elim h1 h2), if_neg (by omega), if_neg (by omega), if_pos (by omega)]]
            show ARet _ _ _
            exact ret_d rfl ⟨rfl, rfl⟩
          · rw [hw] at h
            have h5 : ¬ 8 ≥ n + 1 := of_decide_eq_false h
            show ALoop _ _ _ _
            refine .next ?_
            show ABr _ _ _
            refine ⟨fun h => absurd h (by decide), fun _ => ?_⟩
            rw [show clsOf n = 3 from by unfold clsOf; rw [if_neg (fun h => h.elim h1 h2), if_neg (by omega), if_neg (by omega), if_neg (by omega)]]
            show ARet _ _ _
            exact ret_d rfl ⟨rfl, rfl⟩

theorem rRun_spec (n : Int) : Spec X 100 [] [.int n] (Ret [] (.tup [.int (runOf n), .int (runE n)])) := by
  refine spec_go X_ok Tryz.f100 (by kernel_rfl) (by kernel_rfl) (by kernel_rfl) fun hb hH => ⟨rfl, ?_⟩
  show ACall _ _ _ _ _ _
  refine call_ret (rOf_spec n) rfl ?_
  show ABr (clsE n != 0) _ _
  refine ⟨fun h => ?_, fun h => ?_⟩
  · have h : clsE n ≠ 0 := by simpa using h
    have e1 : runOf n = 0 := by unfold runOf; rw [if_pos h]
    have e2 : runE n = clsE n := by unfold runE; rw [if_pos h]
    rw [e1, e2]
    show ARet _ _ _
    exact ret_d rfl ⟨rfl, rfl⟩
  · have h0 : clsE n = 0 := by simpa using h
    have hr : 1 ≤ n ∧ n ≤ 63 := by unfold clsE at h0; split at h0; cases h0; split at h0; cases h0; omega
    show ABr (decide (clsOf n < 3)) _ _
    refine ⟨fun h => ?_, fun h => ?_⟩
    · have h : clsOf n < 3 := by simpa using h
      have e1 : runOf n = 0 := by unfold runOf; rw [if_neg (fun h => h h0), if_pos h]
      have e2 : runE n = 3 := by unfold runE; rw [if_neg (fun h => h h0), if_pos h]
      rw [e1, e2]
      show ARet _ _ _
      exact ret_d rfl ⟨rfl, rfl⟩
    · have h : ¬ clsOf n < 3 := by simpa using h
      have e1 : runOf n = n / 16 + 1 := by unfold runOf; rw [if_neg (fun h => h h0), if_neg h]
      have e2 : runE n = 0 := by unfold runE; rw [if_neg (fun h => h h0), if_neg h]
      rw [e1, e2]
      have hw : IntKind.i64.wrap (n + 1) = n + 1 := wrap64 (by omega) (by omega)
      show ∃ n, _
      refine ⟨0, ALoop.inv (ι := {i : Nat // (i : Int) ≤ n / 16 + 1}) (fun i => ⟨[(0, .int n), (6, .int i.1)], [], 32⟩) (fun i => 100 - i.1) ⟨0, by show (0 : Int) ≤ n / 16 + 1; omega⟩ ?_ ?_⟩
      · exact ⟨[], .cons _ _ _ .same (.cons _ _ _ .same .nil), .nil, rfl⟩
      · rintro ⟨i, hi⟩
        have hi : (i : Int) ≤ n / 16 + 1 := hi
        have hm : IntKind.i64.wrap (16 * (i : Int)) = 16 * i := wrap64 (by omega) (by omega)
        show ABr (decide (IntKind.i64.wrap (16 * (i : Int)) < IntKind.i64.wrap (n + 1))) _ _
        refine ⟨fun h => ?_, fun h => ?_⟩
        · rw [hw, hm] at h
          have h : 16 * (i : Int) < n + 1 := of_decide_eq_true h
          show ARound _ _ _ _
          exact ⟨⟨i + 1, by show ((i + 1 : Nat) : Int) ≤ n / 16 + 1; omega⟩, by show 100 - (i + 1) < 100 - i; omega, [], .cons _ _ _ .same (.cons _ _ _ (.int_eq (wrapP (i := i) (by unfold maxN; omega))) .nil), .nil, rfl⟩
        · rw [hw, hm] at h
          have h : ¬ 16 * (i : Int) < n + 1 := of_decide_eq_false h
          show ARet _ _ [.int (i : Int), .int 0]
          rw [show (i : Int) = n / 16 + 1 from by omega]
          exact ret_d rfl ⟨rfl, rfl⟩
end Go.Abs
