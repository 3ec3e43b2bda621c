/- Walks: lengths, copies, sorting. -/
import Derived.Test.YtpkngagppfoccaaGreatDoorWLen1
import Derived.Test.YtpkngagppfoccaaGreatDoorAbsBase1
set_option linter.all false
set_option linter.unusedVariables false
set_option linter.unusedSimpArgs false
namespace Go.Abs
open Go.Proofs Go.Proofs.YtpkngagppfoccaaGreatDoor

theorem bitLenAux_le : ∀ f x, Lib.bitLenAux f x ≤ f
  | 0, _ => Nat.le_refl _
  | f + 1, x => by
    unfold Lib.bitLenAux
    split
    · exact Nat.zero_le _
    · have := bitLenAux_le f (x / 2)
      omega

/-- A contract of the model's own, where the world stays as it was. -/
theorem spec_still {X : Ctx} {f : Nat} {args : List TV} {vs : List Value} {Q : Heap → TV → Prop} (hok : callOk X.P f) (hargs : ∀ N S w us, RepTL N S w args us → us = vs) (h : ∀ w, Calls X.P f vs.toArray w fun e w' => ∃ v, e = .returned v ∧ w' = w ∧ v.oneCell' = true ∧ Q [] (.lit v)) : Spec X f [] args Q :=
  ⟨hok, fun N S w us hnr hh hu hg ha => by
    rw [hargs N S w us ha]
    refine (h w).mono ?_
    rintro e w' ⟨v, rfl, rfl, h1, hq⟩
    exact ⟨v, N, [], _, rfl, hq, hnr, fun b x hx => (by cases hx), hu, rep_mk h1, .refl _ _, fun _ _ h => h, fun _ _ => .inr (.inl rfl)⟩⟩

theorem Len_spec (x : Int) (h0 : 0 ≤ x) (h1 : x ≤ 18446744073709551615) : Spec X 114 [] [.lit (.int .u64 x)] (fun H r => H = [] ∧ ∃ n : Int, 0 ≤ n ∧ n ≤ 64 ∧ r = .int n) := by
  refine spec_still (vs := [.int .u64 x]) ⟨Tryz.f114, by kernel_rfl, by kernel_rfl, by kernel_rfl⟩ (fun N S w us ha => ?_) fun w => (bits_Len x w h0 h1).mono ?_
  · match us, ha with
    | [u], ha => rw [rep_lit (ha.2 0 _ u rfl rfl)]
    | [], ha => exact absurd ha.1 (by simp)
    | _ :: _ :: _, ha => exact absurd ha.1 (by simp)
  · rintro e w' ⟨rfl, rfl⟩
    exact ⟨_, rfl, rfl, rfl, rfl, _, by omega, by have := bitLenAux_le 64 x.toNat; unfold Lib.bitLen; omega, rfl⟩

end Go.Abs

namespace Go.Abs
open Go.Proofs Go.Proofs.YtpkngagppfoccaaGreatDoor

theorem CloneInts_spec (l : List Int) (h : l.length ≤ most) : Spec X 58 [] [.c (.d (.sl .int l))] (Ret [] (.c (.d (.sl .int l)))) := by
  refine spec_go X_ok Tryz.f58 (by kernel_rfl) (by kernel_rfl) (by kernel_rfl) fun hb _ => ⟨rfl, ?_⟩
  intro b (hnil : b = true → l = [])
  show ABr _ _ _
  refine ⟨fun hb => ?_, fun hb => ?_⟩
  · show ARet _ _ _
    exact ret1 (.nilsl (hnil hb)) ⟨rfl, rfl⟩
  · show AOb (0 + l.length ≤ most) _
    refine ⟨by omega, ?_⟩
    show ARet _ _ _
    exact ret1 (.frz rfl rfl) ⟨rfl, rfl⟩

theorem ClonePages_spec (l : List Page) (h : l.length ≤ most) : Spec X 59 [] [.c (.d (.sl .page l))] (Ret [] (.c (.d (.sl .page l)))) := by
  refine spec_go X_ok Tryz.f59 (by kernel_rfl) (by kernel_rfl) (by kernel_rfl) fun hb _ => ⟨rfl, ?_⟩
  intro b (hnil : b = true → l = [])
  show ABr _ _ _
  refine ⟨fun hb => ?_, fun hb => ?_⟩
  · show ARet _ _ _
    exact ret1 (.nilsl (hnil hb)) ⟨rfl, rfl⟩
  · show AOb (0 + l.length ≤ most) _
    refine ⟨by omega, ?_⟩
    show ARet _ _ _
    exact ret1 (.frz rfl rfl) ⟨rfl, rfl⟩

theorem CloneBools_spec (l : List Bool) (h : l.length ≤ most) : Spec X 60 [] [.c (.d (.sl .bool l))] (Ret [] (.c (.d (.sl .bool l)))) := by
  refine spec_go X_ok Tryz.f60 (by kernel_rfl) (by kernel_rfl) (by kernel_rfl) fun hb _ => ⟨rfl, ?_⟩
  intro b (hnil : b = true → l = [])
  show ABr _ _ _
  refine ⟨fun hb => ?_, fun hb => ?_⟩
  · show ARet _ _ _
    exact ret1 (.nilsl (hnil hb)) ⟨rfl, rfl⟩
  · show AOb (0 + l.length ≤ most) _
    refine ⟨by omega, ?_⟩
    show ARet _ _ _
    exact ret1 (.frz rfl rfl) ⟨rfl, rfl⟩

end Go.Abs

namespace Go.Abs
open Go.Proofs Go.Proofs.YtpkngagppfoccaaGreatDoor

theorem Ints_spec (a b : List Int) : Spec X 39 [] [.c (.d (.sl .int a)), .c (.d (.sl .int b))] (Ret [] (.bo (decide (a = b)))) := by
  refine spec_go X_ok Tryz.f39 (by kernel_rfl) (by kernel_rfl) (by kernel_rfl) fun hb _ => ⟨rfl, ?_⟩
  have hla : a.length ≤ maxN := (hb (.c (.d (.sl .int a))) (by simp)).1
  unfold maxN at hla
  show ABr _ _ _
  refine ⟨fun (h : ((a.length : Int) != (b.length : Int)) = true) => ?_, fun (h : ((a.length : Int) != (b.length : Int)) = false) => ?_⟩
  · show ARet _ _ _
    refine ret_bo ?_ ⟨rfl, rfl⟩
    have : a ≠ b := fun e => by subst e; simp at h
    simp [this]
  · have hlen : a.length = b.length := by simp [bne] at h; omega
    refine ⟨0, ALoop.inv (ι := {i : Nat // i ≤ a.length ∧ a.take i = b.take i}) (fun i => ⟨[(0, .c (.d (.sl .int a))), (1, .c (.d (.sl .int b))), (5, .int i.1)], [], 32⟩) (fun i => a.length - i.1) ⟨0, by simp⟩ ?_ ?_⟩
    · exact ⟨[], .cons _ _ _ .same (.cons _ _ _ .same (.cons _ _ _ .same .nil)), .nil, rfl⟩
    · rintro ⟨i, hi, he⟩
      show ABr _ _ _
      refine ⟨fun (h : decide ((i : Int) < (a.length : Int)) = true) => ?_, fun (h : decide ((i : Int) < (a.length : Int)) = false) => ?_⟩
      · have hlt : i < a.length := by simpa using h
        show AOb ((0 : Int) ≤ (i : Int) ∧ (i : Int) < (a.length : Int)) _
        refine ⟨by omega, ?_⟩
        show AOb ((0 : Int) ≤ (i : Int) ∧ (i : Int) < (b.length : Int)) _
        refine ⟨by omega, ?_⟩
        show ABr (a.getD i 0 != b.getD i 0) _ _
        have h2 : i < b.length := by omega
        refine ⟨fun h => ?_, fun h => ?_⟩
        · show ARet _ _ _
          refine ret_bo ?_ ⟨rfl, rfl⟩
          have : a ≠ b := fun e => by subst e; simp at h
          simp [this]
        · show ARound _ _ _ _
          have hab : a.take (i + 1) = b.take (i + 1) := by
            have hx : a[i] = b[i] := by simpa [hlt, h2] using h
            rw [List.take_add_one, List.take_add_one, he, List.getElem?_eq_getElem hlt, List.getElem?_eq_getElem h2, hx]
          exact ⟨⟨i + 1, hlt, hab⟩, Nat.sub_lt_sub_left hlt (Nat.lt_succ_self i), [], .cons _ _ _ .same (.cons _ _ _ .same (.cons _ _ _ (.int_eq (by rw [wrap64] <;> simp <;> omega)) .nil)), .nil, rfl⟩
      · show ARet _ _ _
        refine ret_bo ?_ ⟨rfl, rfl⟩
        have hge : i = a.length := by simp at h; omega
        have : a = b := by
          have := he
          rw [hge, List.take_length, hlen, List.take_length] at this
          exact this
        simp [this]

end Go.Abs

namespace Go.Abs
open Go.Proofs Go.Proofs.YtpkngagppfoccaaGreatDoor
set_option maxRecDepth 8000

def Lists.ok (l : Lists) : Prop := l.l0.length ≤ most ∧ l.l1.length ≤ most ∧ l.l2.length ≤ most

theorem Light_spec (l : Lists) : Spec X 23 [] [l.tv] (Ret [] (.bo (decide (l.l0.length ≤ 70 ∧ l.l1.length ≤ 70 ∧ l.l2.length ≤ 70)))) := by
  refine spec_go X_ok Tryz.f23 (by kernel_rfl) (by kernel_rfl) (by kernel_rfl) fun _ _ => ⟨rfl, ?_⟩
  show AOb _ _
  refine ⟨by decide, ?_⟩
  show AOb _ _
  refine ⟨fun _ => by decide, ?_⟩
  show AOb _ _
  refine ⟨fun _ => by decide, ?_⟩
  show ARet _ _ _
  refine ret_bo (x := bif (bif decide ((l.l0.length : Int) ≤ 70) then decide ((l.l1.length : Int) ≤ 70) else false) then decide ((l.l2.length : Int) ≤ 70) else false) ?_ ⟨rfl, rfl⟩
  have e (n : Nat) : decide ((n : Int) ≤ 70) = decide (n ≤ 70) := by rw [decide_eq_decide]; omega
  rw [e, e, e]
  by_cases h0 : l.l0.length ≤ 70 <;> by_cases h1 : l.l1.length ≤ 70 <;> simp [h0, h1]

theorem rOwn_spec (l : Lists) (h : l.ok) : Spec X 26 [] [l.tv] (Ret [] l.tv) := by
  refine spec_go X_ok Tryz.f26 (by kernel_rfl) (by kernel_rfl) (by kernel_rfl) fun _ _ => ⟨rfl, ?_⟩
  show ∃ n, _
  refine ⟨4, .next ?_⟩
  show ABr _ _ _
  refine ⟨fun _ => ?_, fun hb => absurd hb (by decide)⟩
  show AOb _ _
  refine ⟨by decide, ?_⟩
  show AOb (l.l0.length ≤ most) _
  refine ⟨h.1, ?_⟩
  show AOb _ _
  refine ⟨by decide, ?_⟩
  show ALoop _ _ _ _
  refine .next ?_
  show ABr _ _ _
  refine ⟨fun _ => ?_, fun hb => absurd hb (by decide)⟩
  show AOb _ _
  refine ⟨by decide, ?_⟩
  show AOb (l.l1.length ≤ most) _
  refine ⟨h.2.1, ?_⟩
  show AOb _ _
  refine ⟨by decide, ?_⟩
  show ALoop _ _ _ _
  refine .next ?_
  show ABr _ _ _
  refine ⟨fun _ => ?_, fun hb => absurd hb (by decide)⟩
  show AOb _ _
  refine ⟨by decide, ?_⟩
  show AOb (l.l2.length ≤ most) _
  refine ⟨h.2.2, ?_⟩
  show AOb _ _
  refine ⟨by decide, ?_⟩
  show ALoop _ _ _ _
  refine .next ?_
  show ABr _ _ _
  refine ⟨fun hb => absurd hb (by decide), fun _ => ?_⟩
  show ARet _ _ _
  exact ret1 (.agg _ _ (.cons _ _ _ _ (.frz _ _ rfl) (.cons _ _ _ _ (.frz _ _ rfl) (.cons _ _ _ _ (.frz _ _ rfl) .nil)))) ⟨rfl, rfl⟩

theorem Lists.ne {a b : Lists} : a = b ↔ a.l0 = b.l0 ∧ a.l1 = b.l1 ∧ a.l2 = b.l2 := by cases a; cases b; simp

theorem rSame_spec (a b : Lists) : Spec X 41 [] [a.tv, b.tv] (Ret [] (.bo (decide (a = b)))) := by
  refine spec_go X_ok Tryz.f41 (by kernel_rfl) (by kernel_rfl) (by kernel_rfl) fun _ _ => ⟨rfl, ?_⟩
  show ∃ n, _
  refine ⟨4, .next ?_⟩
  show ABr _ _ _
  refine ⟨fun _ => ?_, fun hb => absurd hb (by decide)⟩
  show AOb _ _
  refine ⟨by decide, ?_⟩
  show AOb _ _
  refine ⟨by decide, ?_⟩
  show ADCall _ _ _ _ _ _
  refine .mk [] _ (Ints_spec a.l0 b.l0) rfl ?_
  show ABr (!decide (a.l0 = b.l0)) _ _
  refine ⟨fun h => ?_, fun hl0 => ?_⟩
  · show ARet _ _ _
    refine ret_bo ?_ ⟨rfl, rfl⟩
    rw [eq_comm, decide_eq_false_iff_not, Lists.ne]
    intro e
    simp [e] at h
  show ALoop _ _ _ _
  refine .next ?_
  show ABr _ _ _
  refine ⟨fun _ => ?_, fun hb => absurd hb (by decide)⟩
  show AOb _ _
  refine ⟨by decide, ?_⟩
  show AOb _ _
  refine ⟨by decide, ?_⟩
  show ADCall _ _ _ _ _ _
  refine .mk [] _ (Ints_spec a.l1 b.l1) rfl ?_
  show ABr (!decide (a.l1 = b.l1)) _ _
  refine ⟨fun h => ?_, fun hl1 => ?_⟩
  · show ARet _ _ _
    refine ret_bo ?_ ⟨rfl, rfl⟩
    rw [eq_comm, decide_eq_false_iff_not, Lists.ne]
    intro e
    simp [e] at h
  show ALoop _ _ _ _
  refine .next ?_
  show ABr _ _ _
  refine ⟨fun _ => ?_, fun hb => absurd hb (by decide)⟩
  show AOb _ _
  refine ⟨by decide, ?_⟩
  show AOb _ _
  refine ⟨by decide, ?_⟩
  show ADCall _ _ _ _ _ _
  refine .mk [] _ (Ints_spec a.l2 b.l2) rfl ?_
  show ABr (!decide (a.l2 = b.l2)) _ _
  refine ⟨fun h => ?_, fun hl2 => ?_⟩
  · show ARet _ _ _
    refine ret_bo ?_ ⟨rfl, rfl⟩
    rw [eq_comm, decide_eq_false_iff_not, Lists.ne]
    intro e
    simp [e] at h
  show ALoop _ _ _ _
  refine .next ?_
  show ABr _ _ _
  refine ⟨fun hb => absurd hb (by decide), fun _ => ?_⟩
  show ARet _ _ _
  refine ret_bo ?_ ⟨rfl, rfl⟩
  rw [eq_comm, decide_eq_true_iff, Lists.ne]
  simp at hl0 hl1 hl2
  exact ⟨hl0, hl1, hl2⟩

end Go.Abs

namespace Go.Abs
open Go.Proofs Go.Proofs.YtpkngagppfoccaaGreatDoor
set_option maxRecDepth 8000

theorem isNaN_spec (x : Int) : Spec X 143 [] [.int x] (Ret [] (.bo false)) := by
  refine spec_go X_ok Tryz.f143 (by kernel_rfl) (by kernel_rfl) (by kernel_rfl) fun _ _ => ⟨rfl, ?_⟩
  show ARet _ _ _
  refine ret_bo (x := !decide (x = x)) ?_ ⟨rfl, rfl⟩
  simp

theorem Less_spec (x y : Int) : Spec X 124 [] [.int x, .int y] (Ret [] (.bo (decide (x < y)))) := by
  refine spec_go X_ok Tryz.f124 (by kernel_rfl) (by kernel_rfl) (by kernel_rfl) fun _ _ => ⟨rfl, ?_⟩
  show ACall _ _ _ _ _ _
  refine call_ret (isNaN_spec x) rfl ?_
  show AIf _ _ _
  refine ⟨fun h => absurd h.1 (by decide), fun _ => ?_⟩
  show AOb _ _
  refine ⟨rfl, ?_⟩
  show ARet _ _ _
  exact ret_bo rfl ⟨rfl, rfl⟩

/-- What is done between a and b: nothing else changes, and nothing is lost. -/
structure Srt (l l' : List Int) (a b : Nat) : Prop where
  len : l'.length = l.length
  out : ∀ i, (i < a ∨ b ≤ i) → l'[i]? = l[i]?
  perm : l'.Perm l

theorem Srt.refl (l : List Int) (a b : Nat) : Srt l l a b := ⟨rfl, fun _ _ => rfl, .refl _⟩
theorem Srt.trans {l l' l'' : List Int} {a b : Nat} (h : Srt l l' a b) (h' : Srt l' l'' a b) : Srt l l'' a b :=
  ⟨h'.len.trans h.len, fun i hi => (h'.out i hi).trans (h.out i hi), h'.perm.trans h.perm⟩

def at0 (l : List Int) (i : Nat) : Int := l.getD i 0

theorem at0_set (l : List Int) (i k : Nat) (x : Int) (h : i < l.length) : at0 (l.set i x) k = if i = k then x else at0 l k := by
  unfold at0
  rw [List.getD_eq_getElem?_getD, List.getD_eq_getElem?_getD, List.getElem?_set]
  by_cases hk : i = k
  · subst hk; simp [h]
  · simp [hk]

def swp (l : List Int) (i j : Nat) : List Int := (l.set i (at0 l j)).set j (at0 l i)

theorem swp_len (l : List Int) (i j : Nat) : (swp l i j).length = l.length := by simp [swp]

theorem swp_at (l : List Int) (i j k : Nat) (hi : i < l.length) (hj : j < l.length) : at0 (swp l i j) k = if k = j then at0 l i else if k = i then at0 l j else at0 l k := by
  unfold swp
  rw [at0_set _ _ _ _ (by simpa using hj), at0_set _ _ _ _ hi]
  by_cases h1 : k = j
  · subst h1; simp
  · rw [if_neg (fun e => h1 e.symm), if_neg h1]
    by_cases h2 : k = i
    · subst h2; simp
    · rw [if_neg (fun e => h2 e.symm), if_neg h2]

theorem swp_perm (l : List Int) (i j : Nat) (hi : i < l.length) (hj : j < l.length) : (swp l i j).Perm l := by
  have e : swp l i j = (l.set i l[j]).set j l[i] := by
    unfold swp at0
    rw [List.getD_eq_getElem?_getD, List.getD_eq_getElem?_getD, List.getElem?_eq_getElem hi, List.getElem?_eq_getElem hj]
    rfl
  rw [e]
  exact List.set_set_perm hi hj

theorem swp_srt (l : List Int) (i j a b : Nat) (ha : a ≤ i) (ha' : a ≤ j) (hi : i < b) (hj : j < b) (hb : b ≤ l.length) : Srt l (swp l i j) a b := by
  refine ⟨swp_len l i j, fun k hk => ?_, swp_perm l i j (by omega) (by omega)⟩
  unfold swp
  rw [List.getElem?_set_ne (by omega), List.getElem?_set_ne (by omega)]

def Sorted (l : List Int) (a b : Nat) : Prop := ∀ i j, a ≤ i → i < j → j < b → at0 l i ≤ at0 l j

/-- Where the inner loop stands. -/
structure Ins (l m : List Int) (a b i j : Nat) : Prop where
  srt : Srt l m a b
  ja : a ≤ j
  ji : j ≤ i
  rest : ∀ p q, a ≤ p → p < q → q ≤ i → p ≠ j → q ≠ j → at0 m p ≤ at0 m q
  up : ∀ q, j < q → q ≤ i → at0 m j ≤ at0 m q

theorem Ins.start {l m : List Int} {a b i : Nat} (h : Srt l m a b) (hs : Sorted m a i) (hi : a ≤ i) : Ins l m a b i i :=
  ⟨h, hi, Nat.le_refl _, fun p q h1 h2 h3 h4 h5 => hs p q h1 h2 (by omega), fun q h1 h2 => by omega⟩

theorem Ins.step {l m : List Int} {a b i j : Nat} (h : Ins l m a b i j) (hj : a < j) (hb : i < b) (hl : b ≤ l.length) (hlt : at0 m j < at0 m (j - 1)) : Ins l (swp m (j) (j - 1)) a b i (j - 1) := by
  have hlen := h.srt.len
  have hji := h.ji
  have hat := swp_at m j (j - 1)
  refine ⟨h.srt.trans (swp_srt m j (j - 1) a b h.ja (by omega) (by omega) (by omega) (by omega)), by omega, by omega, fun p q h1 h2 h3 h4 h5 => ?_, fun q h1 h2 => ?_⟩
  · rw [hat p (by omega) (by omega), hat q (by omega) (by omega), if_neg h4, if_neg h5]
    by_cases hp : p = j
    · subst hp
      rw [if_pos rfl, if_neg (by omega)]
      exact h.rest (p - 1) q (by omega) (by omega) h3 (by omega) (by omega)
    · rw [if_neg hp]
      by_cases hq : q = j
      · subst hq
        rw [if_pos rfl]
        exact h.rest p (q - 1) h1 (by omega) (by omega) hp (by omega)
      · rw [if_neg hq]
        exact h.rest p q h1 h2 h3 hp hq
  · rw [hat (j - 1) (by omega) (by omega), if_pos rfl, hat q (by omega) (by omega), if_neg (by omega)]
    by_cases hq : q = j
    · subst hq; rw [if_pos rfl]; omega
    · rw [if_neg hq]; exact h.up q (by omega) h2

theorem Ins.done {l m : List Int} {a b i j : Nat} (h : Ins l m a b i j) (hx : j = a ∨ at0 m (j - 1) ≤ at0 m j) : Sorted m a (i + 1) := by
  have hja := h.ja
  intro p q h1 h2 h3
  by_cases hp : p = j
  · subst hp; exact h.up q h2 (by omega)
  · by_cases hq : q = j
    · subst hq
      rcases hx with hx | hx
      · omega
      · by_cases hpq : p = q - 1
        · subst hpq; exact hx
        · exact Int.le_trans (h.rest p (q - 1) h1 (by omega) (by omega) hp (by omega)) hx
    · exact h.rest p q h1 h2 (by omega) hp hq

end Go.Abs

namespace Go.Abs
open Go.Proofs Go.Proofs.YtpkngagppfoccaaGreatDoor
set_option maxRecDepth 8000

abbrev hp16 (l : List Int) : Heap := [(16, .data .int l)]
def SortQ (l : List Int) (a b : Nat) : Heap → TV → Prop := fun H r => r = .tup [] ∧ ∃ l', H = hp16 l' ∧ Srt l l' a b ∧ Sorted l' a b

theorem wrapP {i : Nat} (h : i ≤ maxN) : IntKind.i64.wrap ((i : Int) + 1) = ((i + 1 : Nat) : Int) := by
  unfold maxN at h
  rw [wrap64 (by omega) (by omega)]; omega
theorem wrapM {i : Nat} (h : i ≤ maxN) (h0 : 0 < i) : IntKind.i64.wrap ((i : Int) - 1) = ((i - 1 : Nat) : Int) := by
  unfold maxN at h
  rw [wrap64 (by omega) (by omega)]; omega

theorem ins_spec (l : List Int) (a b : Nat) (ha : a ≤ b) (hbl : b ≤ l.length) : Spec X 130 (hp16 l) [.c (.own 16), .int a, .int b] (SortQ l a b) := by
  refine spec_go X_ok Tryz.f130 (by kernel_rfl) (by kernel_rfl) (by kernel_rfl) fun hb hH => ⟨rfl, ?_⟩
  have hmax : l.length ≤ maxN := hH 16 .int l rfl
  show ∃ n, _
  refine ⟨0, ALoop.inv (ι := {p : List Int × Nat // Srt l p.1 a b ∧ a < p.2 ∧ (p.2 ≤ b ∨ p.2 = a + 1) ∧ Sorted p.1 a p.2}) (fun p => ⟨[(0, .c (.own 16)), (1, .int a), (2, .int b), (6, .int p.1.2)], [(16, .data .int p.1.1)], 64⟩) (fun p => b - p.1.2) ⟨(l, a + 1), Srt.refl _ _ _, Nat.lt_succ_self a, .inr rfl, fun i j h1 h2 h3 => by omega⟩ ?_ ?_⟩
  · exact ⟨[(16, 16)], .cons _ _ _ (.c _ _ (.own _ _ rfl)) (.cons _ _ _ .same (.cons _ _ _ .same (.cons _ _ _ (.int_eq (wrapP (by omega))) .nil))), .old 16 16 _ _ _ rfl rfl (.data_eq rfl) .nil, rfl⟩
  · rintro ⟨⟨m, i⟩, hs, hai, hib, hso⟩
    show ABr _ _ _
    refine ⟨fun (h : decide ((i : Int) < (b : Int)) = true) => ?_, fun (h : decide ((i : Int) < (b : Int)) = false) => ?_⟩
    · have hlt : i < b := by simpa using h
      have hml : m.length = l.length := hs.len
      show ∃ n, _
      refine ⟨0, ALoop.inv (ι := {p : List Int × Nat // Ins l p.1 a b i p.2}) (fun p => ⟨[(0, .c (.own 16)), (1, .int a), (2, .int b), (6, .int i), (7, .int p.1.2)], [(16, .data .int p.1.1)], 64⟩) (fun p => p.1.2) ⟨(m, i), Ins.start hs hso (by omega)⟩ ?_ ?_⟩
      · exact ⟨[(16, 16)], .cons _ _ _ (.c _ _ (.own _ _ rfl)) (.cons _ _ _ .same (.cons _ _ _ .same (.cons _ _ _ .same (.cons _ _ _ .same .nil)))), .old 16 16 _ _ _ rfl rfl (.data_eq rfl) .nil, rfl⟩
      · rintro ⟨⟨m, j⟩, hI⟩
        have hml : m.length = l.length := hI.srt.len
        have hja : a ≤ j := hI.ja
        have hji : j ≤ i := hI.ji
        show ABr (decide ((j : Int) > (a : Int))) _ _
        refine ⟨fun (h : decide ((j : Int) > (a : Int)) = true) => ?_, fun (h : decide ((j : Int) > (a : Int)) = false) => ?_⟩
        · have hgt : a < j := by simp at h; omega
          have hw := wrapM (i := j) (by omega) (by omega)
          show AOb ((0 : Int) ≤ (j : Int) ∧ (j : Int) < (m.length : Int)) _
          refine ⟨by omega, ?_⟩
          show AOb ((j : Int).toNat < m.length) _
          refine ⟨by omega, ?_⟩
          show AOb ((0 : Int) ≤ IntKind.i64.wrap ((j : Int) - 1) ∧ IntKind.i64.wrap ((j : Int) - 1) < (m.length : Int)) _
          refine ⟨by rw [hw]; omega, ?_⟩
          show AOb ((IntKind.i64.wrap ((j : Int) - 1)).toNat < m.length) _
          refine ⟨by rw [hw]; omega, ?_⟩
          show ADCall _ _ _ _ _ _
          refine .mk [] _ (Less_spec (at0 m j) (at0 m (IntKind.i64.wrap ((j : Int) - 1)).toNat)) rfl ?_
          have e1 : (IntKind.i64.wrap ((j : Int) - 1)).toNat = j - 1 := by rw [hw]; omega
          rw [e1]
          show ABr (decide (at0 m j < at0 m (j - 1))) _ _
          refine ⟨fun h2 => ?_, fun h2 => ?_⟩
          · have hlt2 : at0 m j < at0 m (j - 1) := by simpa using h2
            show AOb ((0 : Int) ≤ _ ∧ _ < ((List.length (α := Int) _ : Nat) : Int)) _
            refine ⟨by dsimp only; (try rw [hw]); (try simp only [List.length_set]); omega, ?_⟩
            show AOb (_ < List.length (α := Int) _) _
            refine ⟨by dsimp only; (try rw [hw]); (try simp only [List.length_set]); omega, ?_⟩
            show AOb ((0 : Int) ≤ _ ∧ _ < ((List.length (α := Int) _ : Nat) : Int)) _
            refine ⟨by dsimp only; (try rw [hw]); (try simp only [List.length_set]); omega, ?_⟩
            show AOb (_ < List.length (α := Int) _) _
            refine ⟨by dsimp only; (try rw [hw]); (try simp only [List.length_set]); omega, ?_⟩
            show AOb ((0 : Int) ≤ _ ∧ _ < ((List.length (α := Int) _ : Nat) : Int)) _
            refine ⟨by dsimp only; (try rw [hw]); (try simp only [List.length_set]); omega, ?_⟩
            show AOb (_ < List.length (α := Int) _) _
            refine ⟨by dsimp only; (try rw [hw]); (try simp only [List.length_set]); omega, ?_⟩
            show AOb ((0 : Int) ≤ IntKind.i64.wrap ((j : Int) - 1) ∧ IntKind.i64.wrap ((j : Int) - 1) < ((m.set (j : Int).toNat (at0 m (IntKind.i64.wrap ((j : Int) - 1)).toNat)).length : Int)) _
            refine ⟨by rw [hw]; simp only [List.length_set]; omega, ?_⟩
            show AOb ((IntKind.i64.wrap ((j : Int) - 1)).toNat < (m.set (j : Int).toNat (at0 m (IntKind.i64.wrap ((j : Int) - 1)).toNat)).length) _
            refine ⟨by rw [hw]; simp only [List.length_set]; omega, ?_⟩
            show ARound _ _ _ _
            refine ⟨⟨(swp m j (j - 1), j - 1), hI.step hgt hlt hbl hlt2⟩, by show j - 1 < j; omega, [(16, 16)], .cons _ _ _ (.c _ _ (.own _ _ rfl)) (.cons _ _ _ .same (.cons _ _ _ .same (.cons _ _ _ .same (.cons _ _ _ (.int_eq hw) .nil)))), .old 16 16 _ _ _ rfl rfl (.data_eq ?_) .nil, rfl⟩
            show (m.set j (at0 m (IntKind.i64.wrap ((j : Int) - 1)).toNat)).set (IntKind.i64.wrap ((j : Int) - 1)).toNat (at0 m j) = _
            rw [e1]
            rfl
          · have hge : at0 m (j - 1) ≤ at0 m j := by simpa using h2
            show ARound _ _ _ _
            exact ⟨⟨(m, i + 1), hI.srt, by show a < i + 1; omega, .inl hlt, hI.done (.inr hge)⟩, by show b - (i + 1) < b - i; omega, [(16, 16)], .cons _ _ _ (.c _ _ (.own _ _ rfl)) (.cons _ _ _ .same (.cons _ _ _ .same (.cons _ _ _ (.int_eq (wrapP (by omega))) .nil))), .old 16 16 _ _ _ rfl rfl (.data_eq rfl) .nil, rfl⟩
        · have hja2 : j = a := by simp at h; omega
          show ABr _ _ _
          refine ⟨fun hx => absurd hx (by decide), fun _ => ?_⟩
          show ARound _ _ _ _
          exact ⟨⟨(m, i + 1), hI.srt, by show a < i + 1; omega, .inl hlt, hI.done (.inl hja2)⟩, by show b - (i + 1) < b - i; omega, [(16, 16)], .cons _ _ _ (.c _ _ (.own _ _ rfl)) (.cons _ _ _ .same (.cons _ _ _ .same (.cons _ _ _ (.int_eq (wrapP (by omega))) .nil))), .old 16 16 _ _ _ rfl rfl (.data_eq rfl) .nil, rfl⟩
    · show ARet _ _ _
      refine ⟨[(16, 16)], hp16 m, [], .nil, .old 16 16 _ _ _ rfl rfl (.data_eq rfl) .nil, rfl, rfl, m, rfl, hs, ?_⟩
      have : ¬ i < b := by simpa using h
      rcases hib with h1 | h1
      · have : i = b := by omega
        exact this ▸ hso
      · intro p q h2 h3 h4; omega
end Go.Abs

namespace Go.Abs
open Go.Proofs Go.Proofs.YtpkngagppfoccaaGreatDoor
set_option maxRecDepth 8000

theorem u64_wrap (n : Int) : 0 ≤ IntKind.u64.wrap n ∧ IntKind.u64.wrap n ≤ 18446744073709551615 := by
  unfold IntKind.wrap
  simp [IntKind.bits, IntKind.signed]
  omega

end Go.Abs
