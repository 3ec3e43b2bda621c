/- Walks: all that is white, shaded one by one, is grey then, in whichever order. -/
import Derived.Test.YtkalcaokmadpjaaDoorWShadeK
import Derived.Test.YtkalcaokmadpjaaDoorWBegins
set_option linter.all false
set_option linter.unusedVariables false
set_option linter.unusedSimpArgs false
namespace Go.Abs

def whites (g : Hp) (c : Col) (l : List Int) : List Int := l.filter fun u => whiteH g c u

/-- What shading all of a list, one by one, comes to. -/
structure ShA (g : Hp) (c : Col) (l : List Int) (s : Hp × Col) : Prop where
  at_ : ∀ u, atK s.1 s.2 u = if u ∈ l ∧ atK g c u = 1 then 2 else atK g c u
  epoch : s.2.epoch = c.epoch
  major : s.2.major = c.major
  used : usedH s.1 = usedH g
  few : fewH s.1 = fewH g
  over : s.2.over = (c.over || decide (1 ≤ (whites g c l).length ∧ 4 < c.work.length + (whites g c l).length))
  len : s.2.work.length = if 4 ≤ c.work.length then c.work.length else min 4 (c.work.length + (whites g c l).length)

theorem ShA.nil (g : Hp) (c : Col) : ShA g c [] (g, c) := by
  refine ⟨fun u => ?_, rfl, rfl, rfl, rfl, ?_, ?_⟩
  · rw [if_neg (by simp)]
  · simp [whites]
  · simp only [whites, List.filter_nil, List.length_nil]
    split <;> omega

theorem ShA.step {g : Hp} {c : Col} {l : List Int} {s : Hp × Col} (h : ShA g c l s) {a : Int} (ha : a ∉ l) : ShA g c (l ++ [a]) (shadeG s.1 s.2 a, shadeC s.1 s.2 a) := by
  have hsame := shadeC_same s.1 s.2 a
  have hka : atK s.1 s.2 a = atK g c a := by rw [h.at_, if_neg (fun k => ha k.1)]
  have hw : whites g c (l ++ [a]) = whites g c l ++ (if atK g c a = 1 then [a] else []) := by
    unfold whites
    rw [List.filter_append, List.filter_cons, List.filter_nil]
    unfold whiteH
    by_cases k : atK g c a = 1 <;> simp [k]
  refine ⟨fun u => ?_, hsame.epoch.trans h.epoch, hsame.major.trans h.major, (shadeG_used _ _ _).trans h.used, (shadeG_few _ _ _).trans h.few, ?_, ?_⟩
  · show atK (shadeG s.1 s.2 a) (shadeC s.1 s.2 a) u = _
    rw [atK_shadeC, atK_shade, hka, h.at_ u]
    by_cases e : u = a
    · subst e
      by_cases k : atK g c u = 1
      · rw [if_pos ⟨rfl, k⟩, if_pos ⟨by simp, k⟩]
      · rw [if_neg (fun x => k x.2), if_neg (fun x => k x.2), if_neg (fun x => k x.2)]
    · rw [if_neg (fun x => e x.1)]
      by_cases hm : u ∈ l ∧ atK g c u = 1
      · rw [if_pos hm, if_pos ⟨List.mem_append_left _ hm.1, hm.2⟩]
      · rw [if_neg hm, if_neg]
        rintro ⟨x, y⟩
        rcases List.mem_append.1 x with x | x
        · exact hm ⟨x, y⟩
        · exact e (List.mem_singleton.1 x)
  · show (shadeC s.1 s.2 a).over = _
    rw [hw]
    have hlen := h.len
    by_cases k : atK g c a = 1
    · rw [shadeC_yes (hka.trans k), if_pos k, List.length_append, List.length_singleton]
      by_cases h4 : s.2.work.length < 4
      · rw [if_pos h4]
        show s.2.over = _
        rw [h.over]
        congr 1
        rw [decide_eq_decide]
        rw [hlen] at h4
        split at h4 <;> omega
      · rw [if_neg h4]
        show true = _
        rw [decide_eq_true, Bool.or_true]
        rw [hlen] at h4
        split at h4 <;> omega
    · rw [shadeC_no (fun x => k (hka.symm.trans x)), if_neg k, List.append_nil, h.over]
  · show (shadeC s.1 s.2 a).work.length = _
    rw [hw]
    have hlen := h.len
    by_cases k : atK g c a = 1
    · rw [shadeC_yes (hka.trans k), if_pos k, List.length_append, List.length_singleton]
      by_cases h4 : s.2.work.length < 4
      · rw [if_pos h4]
        show (s.2.work ++ [a]).length = _
        rw [List.length_append, List.length_singleton]
        rw [hlen] at h4 ⊢
        split at h4
        · omega
        · rw [if_neg (by assumption), if_neg (by assumption)]
          omega
      · rw [if_neg h4]
        show s.2.work.length = _
        rw [hlen] at h4 ⊢
        split at h4
        · rw [if_pos (by assumption), if_pos (by assumption)]
        · rw [if_neg (by assumption), if_neg (by assumption)]
          omega
    · rw [shadeC_no (fun x => k (hka.symm.trans x)), if_neg k, List.append_nil, hlen]

theorem ShA.light {g : Hp} {c : Col} {l : List Int} {s : Hp × Col} (h : ShA g c l s) (hf : fewH g = true) : s.1.light := few_light (h.few.trans hf)
theorem ShA.small {g : Hp} {c : Col} {l : List Int} {s : Hp × Col} (h : ShA g c l s) (hf : fewH g = true) : s.1.small := few_small (h.few.trans hf)
theorem ShA.wlen {g : Hp} {c : Col} {l : List Int} {s : Hp × Col} (h : ShA g c l s) (hc : c.work.length ≤ 100) : s.2.work.length < most := by
  have := h.len
  unfold most
  split at this <;> omega

/-- Shaded all, in whichever order: the same is grey; nothing is white. -/
theorem ShA.grey {g : Hp} {c : Col} {l m : List Int} {s t : Hp × Col} (h : ShA g c l s) (h' : ShA g c m t) (hl : ∀ u, u ∈ l ↔ u ∈ m) : greyH s.1 s.2 = greyH t.1 t.2 := by
  unfold greyH
  rw [h.used, h'.used]
  refine List.filter_congr fun u _ => ?_
  rw [h.at_, h'.at_]
  by_cases k : u ∈ l ∧ atK g c u = 1
  · rw [if_pos k, if_pos ⟨(hl u).1 k.1, k.2⟩]
  · rw [if_neg k, if_neg (fun x => k ⟨(hl u).2 x.1, x.2⟩)]
theorem ShA.white {g : Hp} {c : Col} {s : Hp × Col} {l : List Int} (h : ShA g c l s) {u : Int} (hu : u ∈ l) : whiteH s.1 s.2 u = false := by
  unfold whiteH
  apply decide_eq_false
  rw [h.at_]
  by_cases k : atK g c u = 1
  · rw [if_pos ⟨hu, k⟩]; decide
  · rw [if_neg (fun x => k x.2)]; exact k

theorem filter_two {l : List Int} {p q : Int → Bool} (h : ∀ x ∈ l, ¬ (p x = true ∧ q x = true)) : (l.filter fun x => p x || q x).length = (l.filter p).length + (l.filter q).length := by
  induction l with
  | nil => rfl
  | cons x r ih =>
    have := ih fun y hy => h y (List.mem_cons_of_mem _ hy)
    have h0 := h x (List.mem_cons_self ..)
    rw [List.filter_cons, List.filter_cons, List.filter_cons]
    cases hp : p x <;> cases hq : q x <;> simp [hp, hq] at h0 ⊢ <;> omega

theorem ShA.many {g : Hp} {c : Col} {s : Hp × Col} (h : ShA g c (usedH g) s) : (greyH s.1 s.2).length = (greyH g c).length + (whites g c (usedH g)).length := by
  unfold greyH whites
  rw [h.used, ← filter_two]
  · congr 1
    refine List.filter_congr fun u hu => ?_
    unfold whiteH
    rw [h.at_]
    by_cases k : atK g c u = 1
    · rw [if_pos ⟨hu, k⟩, k]; rfl
    · rw [if_neg (fun x => k x.2), decide_eq_false k, Bool.or_false]
  · intro u _ ⟨h1, h2⟩
    have h1 := of_decide_eq_true h1
    have h2 := of_decide_eq_true h2
    omega
end Go.Abs

namespace Go.Abs
open Go.Proofs Go.Proofs.YtkalcaokmadpjaaDoor
set_option maxRecDepth 8000

theorem ShadeAll_spec (g : Hp) (c : Col) : Spec X 16 [] [g.tv, c.tv] (Ret [] (.bo true)) := by
  refine spec_go X_ok Tryd.f16 (by kernel_rfl) (by kernel_rfl) (by kernel_rfl) fun hb hH => ⟨rfl, ?_⟩
  show ACall _ _ _ _ _ _
  refine call_ret (awake11_spec) rfl ?_
  show ACall _ _ _ _ _ _
  refine call_ret (few11_spec g c) rfl ?_
  cases hf : few11 g c with
  | false =>
    show AIf _ _ _
    refine ⟨fun h => absurd h.1 (by decide), fun _ => ?_⟩
    show AOb _ _
    refine ⟨by simp, ?_⟩
    show ABr _ _ _
    refine ⟨fun _ => ?_, fun h => absurd h (by simp)⟩
    show ARet _ _ _
    exact ret_d rfl ⟨rfl, rfl⟩
  | true =>
    have hf' := hf
    unfold few11 at hf'
    rw [Bool.and_eq_true, decide_eq_true_eq] at hf'
    have hl := few_light hf'.1
    show AIf _ _ _
    refine ⟨fun _ => ?_, fun h => absurd ⟨rfl, trivial⟩ h⟩
    show ACall _ _ _ _ _ _
    refine call_ret (hHMay0_spec g hl) rfl ?_
    cases hm : mayH g [] with
    | false =>
      show ABr _ _ _
      refine ⟨fun _ => ?_, fun h => absurd h (by simp)⟩
      show ARet _ _ _
      exact ret_d rfl ⟨rfl, rfl⟩
    | true =>
      show ABr (bif (bif (bif !true then true else !true) then true else decide (c.epoch < 0)) then true else decide (c.epoch > 1048576)) _ _
      refine ⟨fun h => ?_, fun h => ?_⟩
      · show ARet _ _ _
        exact ret_d rfl ⟨rfl, rfl⟩
      show ACall _ _ _ _ _ _
      refine call_ret (hUsed_spec g hl) rfl ?_
      obtain ⟨U, hU⟩ : ∃ U, U = usedH g := ⟨_, rfl⟩
      have hUs : U.Pairwise (· < ·) := hU ▸ usedH_sorted g
      have hUl : U.length ≤ 512 := by
        rw [hU, usedH_eq hm]
        exact Nat.le_trans (List.length_filter_le _ _) (starts_len g.pages)
      rw [← hU]
      have hnd : U.Nodup := hUs.imp fun h => by omega
      have hrl : U.reverse.length = U.length := List.length_reverse
      have hrg : ∀ i, i < U.length → at0 U.reverse i = at0 U (U.length - 1 - i) := fun i hi => by
        unfold at0
        rw [List.getD_eq_getElem?_getD, List.getD_eq_getElem?_getD, List.getElem?_reverse hi]
      have nin : ∀ (l : List Int), l.Nodup → ∀ i, i < l.length → at0 l i ∉ l.take i := fun l hn i hi hx => by
        have := (List.nodup_append.1 (take_at0 hi ▸ hn.sublist (List.take_sublist (i + 1) l))).2.2 _ hx _ (List.mem_singleton.2 rfl)
        exact this rfl
      obtain ⟨R, hR⟩ : ∃ R, R = U.reverse := ⟨_, rfl⟩
      rw [← hR] at hrl hrg
      have hRn : R.Nodup := hR ▸ ((List.reverse_perm U).nodup_iff.2 hnd)
      have hRm : ∀ u, u ∈ U ↔ u ∈ R := fun u => by rw [hR, List.mem_reverse]
      show ∃ n, _
      refine ⟨0, ALoop.inv (ι := {q : Nat × (Hp × Col) × (Hp × Col) // q.1 ≤ U.length ∧ ShA g c (U.take q.1) q.2.1 ∧ ShA g c (R.take q.1) q.2.2}) (fun q => ⟨[(2, .c (.d (.rp (g.enc)))), (3, .c (.d (.rp (c.enc)))), (7, .c (.d (.sl .int (U)))), (8, .c (.ptr 1 0 0)), (9, .c (.ptr 2 0 0)), (10, .c (.ptr 3 0 0)), (11, .c (.ptr 4 0 0)), (12, .int ((whites g c (U.take q.1.1)).length)), (13, .int (q.1.1))], [(1, .vars (q.1.2.1.1.enc.map .d)), (2, .vars (q.1.2.1.2.enc.map .d)), (3, .vars (q.1.2.2.1.enc.map .d)), (4, .vars (q.1.2.2.2.enc.map .d))], 160⟩) (fun q => U.length - q.1.1) ⟨(0, (g, c), (g, c)), Nat.zero_le _, by rw [List.take_zero]; exact ShA.nil g c, by rw [List.take_zero]; exact ShA.nil g c⟩ ?_ ?_⟩
      · exact ⟨[(1120, 1), (1216, 2), (1312, 3), (1408, 4)], (by repeat' first | exact .nil | refine .cons _ _ _ ?_ ?_ | exact .same | exact .c _ _ (.own _ _ rfl) | exact .c _ _ (.ptr _ _ _ _ rfl) | exact .c _ _ (.frz _ _ rfl) | exact .any _), (by exact .old 1 1120 _ _ _ rfl rfl (.vars _ _ (LeL_refl rfl)) (.old 2 1216 _ _ _ rfl rfl (.vars _ _ (LeL_refl rfl)) (.old 3 1312 _ _ _ rfl rfl (.vars _ _ (LeL_refl rfl)) (.old 4 1408 _ _ _ rfl rfl (.vars _ _ (LeL_refl rfl)) .nil)))), (by rfl)⟩
      rintro ⟨⟨i, ⟨g1, c1⟩, ⟨g2, c2⟩⟩, hi, hA, hB⟩
      have hi : i ≤ U.length := hi
      have hA : ShA g c (U.take i) (g1, c1) := hA
      have hB : ShA g c (R.take i) (g2, c2) := hB
      show ABr (decide ((i : Int) < (U.length : Int))) _ _
      refine ⟨fun h => ?_, fun h => ?_⟩
      · have hlt : i < U.length := by simpa using h
        have wi : IntKind.i64.wrap ((i : Int) + 1) = ((i + 1 : Nat) : Int) := wrapP (i := i) (by unfold maxN; omega)
        show AOb ((0 : Int) ≤ (i : Int) ∧ (i : Int) < (U.length : Int)) _
        refine ⟨by omega, ?_⟩
        show ADCall _ _ _ _ _ _
        refine .mk _ _ (White_spec g c (U.getD i default) hl) rfl ?_
        have hlt' : i < R.length := by omega
        have hwx : whites g c (U.take (i + 1)) = whites g c (U.take i) ++ (bif whiteH g c (at0 U i) then [at0 U i] else []) := by
          unfold whites
          rw [take_at0 hlt, List.filter_append, List.filter_cons, List.filter_nil]
          cases whiteH g c (at0 U i) <;> rfl
        have hwl : (whites g c (U.take i)).length ≤ 512 := by
          refine Nat.le_trans (List.length_filter_le _ _) ?_
          rw [List.length_take]; omega
        have hA' := hA.step (nin U hnd i hlt)
        have hB' := hB.step (nin R hRn i hlt')
        rw [← take_at0 hlt] at hA'
        rw [← take_at0 hlt', hrg i hlt] at hB'
        show ABr (whiteH g c (at0 U i)) _ _
        refine ⟨fun h => ?_, fun h => ?_⟩
        · rw [h] at hwx
          have ww : IntKind.i64.wrap (((whites g c (U.take i)).length : Int) + 1) = ((whites g c (U.take (i + 1))).length : Int) := by
            rw [hwx, List.length_append, wrap64 (by omega) (by omega)]
            simp
          show AOb ((0 : Int) ≤ (i : Int) ∧ (i : Int) < (U.length : Int)) _
          refine ⟨by omega, ?_⟩
          show ADCall _ _ _ _ _ _
          refine .mk _ _ (Shade_spec g1 c1 (at0 U i) (hA.light hf'.1) (hA.small hf'.1) (hA.wlen hf'.2)) rfl ?_
          have wx : IntKind.i64.wrap (IntKind.i64.wrap ((U.length : Int) - 1) - (i : Int)) = ((U.length - 1 - i : Nat) : Int) := by
            rw [wrap64 (n := (U.length : Int) - 1) (by omega) (by omega), wrap64 (by omega) (by omega)]
            omega
          show AOb ((0 : Int) ≤ IntKind.i64.wrap (IntKind.i64.wrap ((U.length : Int) - 1) - (i : Int)) ∧ IntKind.i64.wrap (IntKind.i64.wrap ((U.length : Int) - 1) - (i : Int)) < (U.length : Int)) _
          refine ⟨by rw [wx]; omega, ?_⟩
          show ADCall _ _ [_, _, .int (U.getD (IntKind.i64.wrap (IntKind.i64.wrap ((U.length : Int) - 1) - (i : Int))).toNat default)] _ _ _
          rw [wx]
          refine .mk _ _ (Shade_spec g2 c2 (at0 U (U.length - 1 - i)) (hB.light hf'.1) (hB.small hf'.1) (hB.wlen hf'.2)) rfl ?_
          show ARound _ _ _ _
          exact ⟨⟨(i + 1, (shadeG g1 c1 (at0 U i), shadeC g1 c1 (at0 U i)), (shadeG g2 c2 (at0 U (U.length - 1 - i)), shadeC g2 c2 (at0 U (U.length - 1 - i)))), hlt, hA', hB'⟩, (by dsimp only; omega), [(1, 1), (2, 2), (3, 3), (4, 4)], (by repeat' first | exact .nil | refine .cons _ _ _ ?_ ?_ | exact .int_eq wi | exact .int_eq ww | exact .same | exact .c _ _ (.own _ _ rfl) | exact .c _ _ (.ptr _ _ _ _ rfl) | exact .c _ _ (.frz _ _ rfl) | exact .any _), (by exact .old 1 1 _ _ _ rfl rfl (.vars _ _ (LeL_refl rfl)) (.old 2 2 _ _ _ rfl rfl (.vars _ _ (LeL_refl rfl)) (.old 3 3 _ _ _ rfl rfl (.vars _ _ (LeL_refl rfl)) (.old 4 4 _ _ _ rfl rfl (.vars _ _ (LeL_refl rfl)) .nil)))), (by rfl)⟩
        · rw [h] at hwx
          have ww : ((whites g c (U.take i)).length : Int) = ((whites g c (U.take (i + 1))).length : Int) := by
            rw [hwx, List.length_append]
            simp
          show AOb ((0 : Int) ≤ (i : Int) ∧ (i : Int) < (U.length : Int)) _
          refine ⟨by omega, ?_⟩
          show ADCall _ _ _ _ _ _
          refine .mk _ _ (Shade_spec g1 c1 (at0 U i) (hA.light hf'.1) (hA.small hf'.1) (hA.wlen hf'.2)) rfl ?_
          have wx : IntKind.i64.wrap (IntKind.i64.wrap ((U.length : Int) - 1) - (i : Int)) = ((U.length - 1 - i : Nat) : Int) := by
            rw [wrap64 (n := (U.length : Int) - 1) (by omega) (by omega), wrap64 (by omega) (by omega)]
            omega
          show AOb ((0 : Int) ≤ IntKind.i64.wrap (IntKind.i64.wrap ((U.length : Int) - 1) - (i : Int)) ∧ IntKind.i64.wrap (IntKind.i64.wrap ((U.length : Int) - 1) - (i : Int)) < (U.length : Int)) _
          refine ⟨by rw [wx]; omega, ?_⟩
          show ADCall _ _ [_, _, .int (U.getD (IntKind.i64.wrap (IntKind.i64.wrap ((U.length : Int) - 1) - (i : Int))).toNat default)] _ _ _
          rw [wx]
          refine .mk _ _ (Shade_spec g2 c2 (at0 U (U.length - 1 - i)) (hB.light hf'.1) (hB.small hf'.1) (hB.wlen hf'.2)) rfl ?_
          show ARound _ _ _ _
          exact ⟨⟨(i + 1, (shadeG g1 c1 (at0 U i), shadeC g1 c1 (at0 U i)), (shadeG g2 c2 (at0 U (U.length - 1 - i)), shadeC g2 c2 (at0 U (U.length - 1 - i)))), hlt, hA', hB'⟩, (by dsimp only; omega), [(1, 1), (2, 2), (3, 3), (4, 4)], (by repeat' first | exact .nil | refine .cons _ _ _ ?_ ?_ | exact .int_eq wi | exact .int_eq ww | exact .same | exact .c _ _ (.own _ _ rfl) | exact .c _ _ (.ptr _ _ _ _ rfl) | exact .c _ _ (.frz _ _ rfl) | exact .any _), (by exact .old 1 1 _ _ _ rfl rfl (.vars _ _ (LeL_refl rfl)) (.old 2 2 _ _ _ rfl rfl (.vars _ _ (LeL_refl rfl)) (.old 3 3 _ _ _ rfl rfl (.vars _ _ (LeL_refl rfl)) (.old 4 4 _ _ _ rfl rfl (.vars _ _ (LeL_refl rfl)) .nil)))), (by rfl)⟩
      have hge : i = U.length := by simp at h; omega
      have hAl : ShA g c U (g1, c1) := by rw [hge, List.take_length] at hA; exact hA
      have hBl : ShA g c R (g2, c2) := by rw [hge, ← hrl, List.take_length] at hB; exact hB
      have hl1 := hA.light hf'.1
      have hl2 := hB.light hf'.1
      have h12 : ((whites g c (U.take i)).length : Int) = ((whites g c U).length : Int) := by rw [hge, List.take_length]
      show ∃ n, _
      refine ⟨0, ALoop.inv (ι := {i : Nat // i ≤ U.length}) (fun q => ⟨[(2, .c (.d (.rp (g.enc)))), (3, .c (.d (.rp (c.enc)))), (7, .c (.d (.sl .int (U)))), (8, .c (.d (.rp (g1.enc)))), (9, .c (.d (.rp (c1.enc)))), (10, .c (.d (.rp (g2.enc)))), (11, .c (.d (.rp (c2.enc)))), (12, .int ((whites g c U).length)), (14, .int (q.1))], [], 32⟩) (fun q => U.length - q.1) ⟨0, Nat.zero_le _⟩ ?_ ?_⟩
      · exact ⟨[], (by repeat' first | exact .nil | refine .cons _ _ _ ?_ ?_ | exact .int_eq h12 | exact .same | exact .c _ _ (.own _ _ rfl) | exact .c _ _ (.ptr _ _ _ _ rfl) | exact .c _ _ (.frz _ _ rfl) | exact .any _), (by exact .nil), (by rfl)⟩
      rintro ⟨j, hj⟩
      show ABr (decide ((j : Int) < (U.length : Int))) _ _
      refine ⟨fun h => ?_, fun h => ?_⟩
      · have hlt : j < U.length := by simpa using h
        have wj : IntKind.i64.wrap ((j : Int) + 1) = ((j + 1 : Nat) : Int) := wrapP (i := j) (by unfold maxN; omega)
        have hin : at0 U j ∈ U := by
          unfold at0
          rw [List.getD_eq_getElem?_getD, List.getElem?_eq_getElem hlt]
          exact List.getElem_mem hlt
        show AOb ((0 : Int) ≤ (j : Int) ∧ (j : Int) < (U.length : Int)) _
        refine ⟨by omega, ?_⟩
        show ADCall _ _ _ _ _ _
        refine .mk _ _ (White_spec g1 c1 (at0 U j) hl1) rfl ?_
        rw [hAl.white hin]
        show ABr _ _ _
        refine ⟨fun h => absurd h (by decide), fun _ => ?_⟩
        show ARound _ _ _ _
        exact ⟨⟨j + 1, hlt⟩, (by dsimp only; omega), [], (by repeat' first | exact .nil | refine .cons _ _ _ ?_ ?_ | exact .int_eq wj | exact .same | exact .c _ _ (.own _ _ rfl) | exact .c _ _ (.ptr _ _ _ _ rfl) | exact .c _ _ (.frz _ _ rfl) | exact .any _), (by exact .nil), (by rfl)⟩
      show ACall _ _ _ _ _ _
      refine call_ret (Grey_spec g c hl) rfl ?_
      show ADCall _ _ _ _ _ _
      refine .mk _ _ (Grey_spec g1 c1 hl1) rfl ?_
      show ADCall _ _ _ _ _ _
      refine .mk _ _ (Grey_spec g2 c2 hl2) rfl ?_
      show ADCall _ _ _ _ _ _
      refine .mk _ _ (Ints_spec (greyH g1 c1) (greyH g2 c2)) rfl ?_
      rw [decide_eq_true (hAl.grey hBl hRm)]
      show AIf _ _ _
      refine ⟨fun _ => ?_, fun h => absurd ⟨rfl, trivial⟩ h⟩
      show ACall _ _ _ _ _ _
      refine call_ret (Grey_spec g1 c1 hl1) rfl ?_
      show ARet _ _ _
      refine ret_bo (x := bif (bif (bif true then ((greyH g1 c1).length : Int) == IntKind.i64.wrap (((greyH g c).length : Int) + ((whites g c U).length : Int)) else false) then c1.over == c2.over else false) then (bif (bif decide (IntKind.i64.wrap (((whites g c U).length : Int) + (c.work.length : Int)) ≤ 4) then true else ((whites g c U).length : Int) == 0) then true else c1.over) else false) ?_ ⟨rfl, rfl⟩
      have hmany : (greyH g1 c1).length = (greyH g c).length + (whites g c U).length := by rw [hU] at hAl ⊢; exact hAl.many
      have hwl : (whites g c U).length ≤ 512 := Nat.le_trans (List.length_filter_le _ _) hUl
      have hgl : (greyH g c).length ≤ 512 := by
        unfold greyH
        rw [← hU]
        exact Nat.le_trans (List.length_filter_le _ _) hUl
      have hperm : (whites g c R).length = (whites g c U).length := by
        unfold whites
        rw [hR]
        exact ((List.reverse_perm U).filter _).length_eq
      have ho1 : c1.over = (c.over || decide (1 ≤ (whites g c U).length ∧ 4 < c.work.length + (whites g c U).length)) := hAl.over
      have ho2 : c2.over = (c.over || decide (1 ≤ (whites g c R).length ∧ 4 < c.work.length + (whites g c R).length)) := hBl.over
      rw [hperm] at ho2
      rw [wrap64 (by omega) (by omega), wrap64 (by omega) (by omega), hmany, ho2.trans ho1.symm, ho1]
      generalize (whites g c U).length = n
      have e1 : ((((greyH g c).length + n : Nat) : Int) == ((greyH g c).length : Int) + (n : Int)) = true := by rw [beq_iff_eq]; omega
      rw [e1]
      by_cases h4 : (n : Int) + (c.work.length : Int) ≤ 4
      · rw [decide_eq_true h4]; simp
      · rw [decide_eq_false h4]
        by_cases h0 : n = 0
        · subst h0; simp
        · rw [decide_eq_true (show 1 ≤ n ∧ 4 < c.work.length + n by omega)]
          simp
end Go.Abs
