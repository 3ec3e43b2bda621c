/- Walks: in what is whole each word lies in just one of these: a cell that is used, one that is told of as free, or a free page. -/
import Derived.Test.YtkalcaokmadpjaaDoorWTile
import Derived.Test.YtkalcaokmadpjaaDoorWHeapLess
set_option linter.all false
set_option linter.unusedVariables false
set_option linter.unusedSimpArgs false
namespace Go.Abs

theorem may_nil {g : Hp} {cs : List Lists} (h : mayH g cs = true) : mayH g [] = true := by
  obtain ⟨h1, h2, h3, h4⟩ := mayH_of h
  refine mayH_mk h1 (fun l hl => h2 l ?_) h3 ?_
  · rw [List.mem_singleton.1 hl]; exact List.mem_cons_self ..
  · have e : flats (g.free :: cs) = flats [g.free] ++ flats cs := by unfold flats; simp
    rw [e] at h4
    exact (List.nodup_append.1 h4).1

/-- Does a cell that begins at an address have this one? -/
def hasA (g : Hp) (a s : Int) : Bool := decide (s ≤ a ∧ a < s + roomAt g.pages s)

theorem cnt_starts (g : Hp) (a : Int) : cnt (cellsAll g.pages) a = ((cellStarts g.pages).filter (hasA g a)).length := by
  unfold cnt cellStarts
  rw [List.filter_map, List.length_map]
  congr 1
  refine List.filter_congr fun x hx => ?_
  show inCell a x = hasA g a x.1
  unfold inCell hasA
  rw [roomAt_mem hx]

theorem filter_split {l : List Int} (p q : Int → Bool) : (l.filter q).length = ((l.filter p).filter q).length + ((l.filter fun x => !p x).filter q).length := by
  induction l with
  | nil => rfl
  | cons x r ih =>
    rw [List.filter_cons, List.filter_cons, List.filter_cons]
    cases hp : p x <;> cases hq : q x <;> simp [hp, hq, List.filter_cons] at ih ⊢ <;> omega

theorem words_one {g : Hp} {cs : List Lists} (h : wholeH g cs = true) {a : Int} (ha : adr g a) :
    ((usedH g).filter (hasA g a)).length + ((flats (g.free :: cs)).filter (hasA g a)).length + (if (pageAt g a).kind = 0 then 1 else 0) = 1 := by
  unfold wholeH at h
  rw [Bool.and_eq_true, List.all_eq_true] at h
  obtain ⟨hm, hw⟩ := h
  obtain ⟨h1, h2, h3, h4⟩ := mayH_of hm
  obtain ⟨_, hmp, hsl, _⟩ := shapedH_of h1
  have hperm : (flats (g.free :: cs)).Perm ((cellStarts g.pages).filter fun x => !(wordAt g x != 0)) := by
    rw [List.perm_ext_iff_of_nodup h4 (((starts_sorted g.pages).imp (fun h => by omega) : (cellStarts g.pages).Nodup).sublist List.filter_sublist)]
    intro x
    rw [List.mem_filter]
    constructor
    · intro hx
      obtain ⟨l, hl, hx⟩ := mem_flats.1 hx
      obtain ⟨k1, k2⟩ := listed_free (h2 l hl) hx
      exact ⟨mem_starts.2 (by omega), by rw [k2]; rfl⟩
    · rintro ⟨hx, h0⟩
      have := hw x hx
      rw [Bool.or_eq_true] at this
      rcases this with k | k
      · rw [k] at h0; cases h0
      · exact List.contains_iff_mem.1 k
  rw [(hperm.filter _).length_eq, usedH_eq (may_nil hm), ← filter_split, ← cnt_starts]
  have ht := tile g.pages 0 0 (by unfold mayP at hmp; rw [Bool.and_eq_true] at hmp; exact hmp.1) (Int.le_refl _) (fun p hp => by
    obtain ⟨i, hi, e⟩ := List.mem_iff_getElem.1 hp
    have := (mayP_ok hmp).1 i hi
    rw [List.getD_eq_getElem?_getD, List.getElem?_eq_getElem hi] at this
    rw [← e]; exact this) a (by have := ha.1; omega) (by have := ha.2; omega)
  have e0 : cellsAll g.pages = cellsRec 0 g.pages := by
    unfold cellsAll
    rw [if_pos hmp, cellsRec_from g.pages _ 0 rfl]
    rfl
  rw [e0]
  have e1 : freeP 0 g.pages a = (if (pageAt g a).kind = 0 then 1 else 0) := by
    unfold freeP pageAt
    rw [show (a / 16 - 1 - ((0 : Nat) : Int)).toNat = (a / 16 - 1).toNat by omega]
  rw [if_neg (show ¬ a < 16 * (((0 : Nat) : Int) + 1 + 0) by have := ha.1; omega), e1] at ht
  omega
end Go.Abs

namespace Go.Abs
open Go.Proofs Go.Proofs.YtkalcaokmadpjaaDoor
set_option maxRecDepth 8000

theorem Free1_spec (l : List Page) (i : Int) (hi : 0 ≤ i ∧ i < (l.length : Int)) : Spec X 37 [] [.c (.d (.sl .page l)), .int i, .int 1] (Ret [] (.bo (decide ((l.getD i.toNat default).kind = 0)))) := by
  refine spec_go X_ok Tryd.f37 (by kernel_rfl) (by kernel_rfl) (by kernel_rfl) fun hb hH => ⟨rfl, ?_⟩
  have hla : l.length ≤ maxN := (hb (.c (.d (.sl .page l))) (by simp)).1
  unfold maxN at hla
  have w1 : IntKind.i64.wrap (i + 1) = i + 1 := wrap64 (by omega) (by omega)
  show ∃ n, _
  refine ⟨2, ?_⟩
  show ALoop _ _ _ _
  refine .next ?_
  show ABr (decide (i < IntKind.i64.wrap (i + 1))) _ _
  rw [w1]
  refine ⟨fun _ => ?_, fun h => absurd h (by rw [decide_eq_true (by omega)]; simp)⟩
  show AOb ((0 : Int) ≤ i ∧ i < (l.length : Int)) _
  refine ⟨hi, ?_⟩
  show ABr ((l.getD i.toNat default).kind != 0) _ _
  refine ⟨fun h => ?_, fun h => ?_⟩
  · have h0 : (l.getD i.toNat default).kind ≠ 0 := by simpa using h
    rw [decide_eq_false h0]
    show ARet _ _ _
    exact ret_d rfl ⟨rfl, rfl⟩
  · have h0 : (l.getD i.toNat default).kind = 0 := by simpa using h
    rw [decide_eq_true h0]
    show ALoop _ _ _ _
    refine .next ?_
    show ABr (decide (IntKind.i64.wrap (i + 1) < IntKind.i64.wrap (i + 1))) _ _
    refine ⟨fun h => absurd h (by simp), fun _ => ?_⟩
    show ARet _ _ _
    exact ret_d rfl ⟨rfl, rfl⟩

theorem few_caches {g : Hp} {n : Nat} : (bif (bif !true then true else !fewH g) then true else decide ((n : Int) > 4)) = !decide (fewH g = true ∧ n ≤ 4) := by
  cases hf : fewH g with
  | false => simp
  | true =>
    by_cases h4 : n ≤ 4
    · rw [decide_eq_true (show true = true ∧ n ≤ 4 from ⟨rfl, h4⟩), decide_eq_false (show ¬ (n : Int) > 4 by omega)]; rfl
    · rw [decide_eq_false (show ¬ (true = true ∧ n ≤ 4) from fun h => h4 h.2), decide_eq_true (show (n : Int) > 4 by omega)]; rfl

theorem room_le (l : List Page) (a : Int) : roomAt l a ≤ 64 := by
  by_cases h : roomAt l a = 0
  · omega
  · obtain ⟨_, i, hi⟩ := cellOf_mem (roomAt_pos h)
    have hk := hi.kind
    simp only at hk
    rcases hk with ⟨_, k2, k3, _, k5⟩ | ⟨_, k2, k3, _, k5⟩
    · rw [k5]; rcases clsWN ⟨k2, k3⟩ with ⟨e, _⟩ | ⟨e, _⟩ | ⟨e, _⟩ <;> omega
    · omega

theorem filt_take {l : List Int} {k : Nat} (h : k < l.length) (q : Int → Bool) : ((l.take (k + 1)).filter q).length = ((l.take k).filter q).length + (if q (at0 l k) = true then 1 else 0) := by
  rw [take_at0 h, List.filter_append, List.length_append, List.filter_cons, List.filter_nil]
  cases q (at0 l k) <;> rfl



theorem HeapWords_spec (g : Hp) (cs : List Lists) (hbk : (flats cs).length ≤ 1048576) : Spec X 5 [] [g.tv, .c (.d (.sl .lists cs))] (Ret [] (.bo true)) := by
  refine spec_go X_ok Tryd.f5 (by kernel_rfl) (by kernel_rfl) (by kernel_rfl) fun hb hH => ⟨rfl, ?_⟩
  show ACall _ _ _ _ _ _
  refine call_ret (awake7_spec) rfl ?_
  show ACall _ _ _ _ _ _
  refine call_ret (Few_spec g) rfl ?_
  show AIf ((bif (bif !true then true else !fewH g) then true else decide ((cs.length : Int) > 4)) = false ∧ True) _ _
  by_cases hc : fewH g = true ∧ cs.length ≤ 4
  · obtain ⟨hf, h4⟩ := hc
    have hl := few_light hf
    have hfl := flats_upto hf hbk
    have hcm : cs.length < most := by unfold most; omega
    refine ⟨fun _ => ?_, fun h => absurd ⟨by rw [few_caches, decide_eq_true ⟨hf, h4⟩]; rfl, trivial⟩ h⟩
    show ACall _ _ _ _ _ _
    refine call_ret (Whole_spec g cs hfl hcm) rfl ?_
    cases hm : wholeH g cs with
    | false =>
      show ABr _ _ _
      refine ⟨fun _ => ?_, fun h => absurd h (by simp)⟩
      show ARet _ _ _
      exact ret_d rfl ⟨rfl, rfl⟩
    | true =>
      show ABr _ _ _
      refine ⟨fun h => absurd h (by simp), fun _ => ?_⟩
      have hm' := hm
      unfold wholeH at hm'
      rw [Bool.and_eq_true] at hm'
      have hs := mayH_shaped hm'.1
      obtain ⟨_, hmp, hsl, _, _, h64⟩ := shapedH_of hs
      show ACall _ _ _ _ _ _
      refine call_ret (hUsed_spec g hl) rfl ?_
      show AOb (1 + cs.length ≤ most) _
      refine ⟨by omega, ?_⟩
      show ACall _ _ _ _ _ _
      refine .mk _ (rAll_spec (g.free :: cs) hfl) fun H r hq _ _ => ?_
      obtain ⟨rfl, rfl⟩ := hq
      refine ⟨.inr ⟨rfl, rfl⟩, ?_⟩
      have hone := fun a ha => words_one (a := a) hm ha
      have hUm : ∀ u ∈ usedH g, adr g u := fun u hu => (head_fits (mem_usedH.1 hu)).2.2.2
      have hFm : ∀ u ∈ flats (g.free :: cs), adr g u := fun u hu => by
        obtain ⟨l, hl, hx⟩ := mem_flats.1 hu
        obtain ⟨k1, k2⟩ := listed_free ((mayH_of hm'.1).2.1 l hl) hx
        exact room_adr (by omega)
      have hUl : (usedH g).length ≤ 512 := by
        rw [usedH_eq (may_nil hm'.1)]
        exact Nat.le_trans (List.length_filter_le _ _) (starts_len g.pages)
      have hFl : (flats (g.free :: cs)).length ≤ 68719476736 := hfl
      generalize usedH g = U at *
      generalize flats (g.free :: cs) = F at *
      show ∃ n, _
      refine ⟨0, ALoop.inv (ι := {i : Nat // i ≤ g.w.length}) (fun q => ⟨[(2, .c (.d (.rp (g.enc)))), (7, .c (.d (.sl .int (U)))), (8, .c (.d (.sl .int (F)))), (9, .int (16 + (q.1 : Int)))], [], 32⟩) (fun q => g.w.length - q.1) ⟨0, Nat.zero_le _⟩ ?_ ?_⟩
      · exact ⟨[], (by repeat' first | exact .nil | refine .cons _ _ _ ?_ ?_ | exact .same | exact .c _ _ (.own _ _ rfl) | exact .c _ _ (.ptr _ _ _ _ rfl) | exact .c _ _ (.frz _ _ rfl) | exact .any _), (by exact .nil), (by rfl)⟩
      rintro ⟨i, hi⟩
      have w2 : IntKind.i64.wrap (16 + (g.w.length : Int)) = 16 + (g.w.length : Int) := wrap64 (by omega) (by omega)
      show ABr (decide (16 + (i : Int) < IntKind.i64.wrap (16 + (g.w.length : Int)))) _ _
      rw [w2]
      refine ⟨fun h => ?_, fun h => ?_⟩
      · have hlt : i < g.w.length := by have := of_decide_eq_true h; omega
        have wi : IntKind.i64.wrap (16 + (i : Int) + 1) = 16 + ((i + 1 : Nat) : Int) := by rw [wrap64 (by omega) (by omega)]; omega
        obtain ⟨a, ha⟩ : ∃ a : Int, a = 16 + (i : Int) := ⟨_, rfl⟩
        have hadr : adr g a := ⟨by omega, by omega⟩
        have wa : IntKind.i64.wrap (a + 1) = 16 + ((i + 1 : Nat) : Int) := by rw [ha]; exact wi
        show ∃ n, _
        refine ⟨0, ALoop.inv (ι := {k : Nat // k ≤ U.length}) (fun q => ⟨[(2, .c (.d (.rp (g.enc)))), (7, .c (.d (.sl .int (U)))), (8, .c (.d (.sl .int (F)))), (9, .int (a)), (10, .int (((U.take q.1).filter (hasA g a)).length)), (11, .int (q.1))], [], 32⟩) (fun q => U.length - q.1) ⟨0, Nat.zero_le _⟩ ?_ ?_⟩
        · exact ⟨[], (by repeat' first | exact .nil | refine .cons _ _ _ ?_ ?_ | exact .int_eq ha.symm | exact .same | exact .c _ _ (.own _ _ rfl) | exact .c _ _ (.ptr _ _ _ _ rfl) | exact .c _ _ (.frz _ _ rfl) | exact .any _), (by exact .nil), (by rfl)⟩
        rintro ⟨k, hk⟩
        show ABr (decide ((k : Int) < (U.length : Int))) _ _
        refine ⟨fun h => ?_, fun h => ?_⟩
        · have hkl : k < U.length := by simpa using h
          have wk : IntKind.i64.wrap ((k : Int) + 1) = ((k + 1 : Nat) : Int) := wrapP (i := k) (by unfold maxN; omega)
          have hst := filt_take hkl (hasA g a)
          have hcl : ((U.take k).filter (hasA g a)).length ≤ 512 := by
            refine Nat.le_trans (List.length_filter_le _ _) ?_
            rw [List.length_take]; omega
          obtain ⟨u, hu⟩ : ∃ u, u = at0 U k := ⟨_, rfl⟩
          have hin : u ∈ U := by
            rw [hu]
            unfold at0
            rw [List.getD_eq_getElem?_getD, List.getElem?_eq_getElem hkl]
            exact List.getElem_mem hkl
          obtain ⟨hu1, hu2⟩ := hUm u hin
          have hr0 := roomAt_nonneg g.pages u
          have hr1 := room_le g.pages u
          have wr : IntKind.i64.wrap (u + roomAt g.pages u) = u + roomAt g.pages u := wrap64 (by omega) (by omega)
          rw [← hu] at hst
          show AOb ((0 : Int) ≤ (k : Int) ∧ (k : Int) < (U.length : Int)) _
          refine ⟨by omega, ?_⟩
          show ABr (decide (at0 U k ≤ a)) _ _
          rw [← hu]
          refine ⟨fun h => ?_, fun h => ?_⟩
          · have h1 := of_decide_eq_true h
            show AOb ((0 : Int) ≤ (k : Int) ∧ (k : Int) < (U.length : Int)) _
            refine ⟨by omega, ?_⟩
            show AOb ((0 : Int) ≤ (k : Int) ∧ (k : Int) < (U.length : Int)) _
            refine ⟨by omega, ?_⟩
            show ADCall _ _ [_, .int (at0 U k)] _ _ _
            rw [← hu]
            refine .mk _ _ (Begins_spec g.pages u) rfl ?_
            show ABr (decide (a < IntKind.i64.wrap (at0 U k + roomAt g.pages u))) _ _
            rw [← hu, wr]
            refine ⟨fun h => ?_, fun h => ?_⟩
            · have h2 := of_decide_eq_true h
              have hq : hasA g a u = true := decide_eq_true ⟨h1, h2⟩
              rw [hq, if_pos rfl] at hst
              have w9 : IntKind.i64.wrap ((((U.take k).filter (hasA g a)).length : Int) + 1) = (((U.take (k + 1)).filter (hasA g a)).length : Int) := by rw [wrap64 (by omega) (by omega)]; omega
              show ARound _ _ _ _
              exact ⟨⟨k + 1, hkl⟩, (by dsimp only; omega), [], (by repeat' first | exact .nil | refine .cons _ _ _ ?_ ?_ | exact .int_eq wk | exact .int_eq w9 | exact .same | exact .c _ _ (.own _ _ rfl) | exact .c _ _ (.ptr _ _ _ _ rfl) | exact .c _ _ (.frz _ _ rfl) | exact .any _), (by exact .nil), (by rfl)⟩
            · have h2 := of_decide_eq_false h
              have hq : hasA g a u = false := decide_eq_false fun x => h2 x.2
              rw [hq, if_neg (by decide)] at hst
              have w9 : (((U.take k).filter (hasA g a)).length : Int) = (((U.take (k + 1)).filter (hasA g a)).length : Int) := by omega
              show ARound _ _ _ _
              exact ⟨⟨k + 1, hkl⟩, (by dsimp only; omega), [], (by repeat' first | exact .nil | refine .cons _ _ _ ?_ ?_ | exact .int_eq wk | exact .int_eq w9 | exact .same | exact .c _ _ (.own _ _ rfl) | exact .c _ _ (.ptr _ _ _ _ rfl) | exact .c _ _ (.frz _ _ rfl) | exact .any _), (by exact .nil), (by rfl)⟩
          · have h1 := of_decide_eq_false h
            have hq : hasA g a u = false := decide_eq_false fun x => h1 x.1
            rw [hq, if_neg (by decide)] at hst
            show ABr _ _ _
            refine ⟨fun h => absurd h (by decide), fun _ => ?_⟩
            have w9 : (((U.take k).filter (hasA g a)).length : Int) = (((U.take (k + 1)).filter (hasA g a)).length : Int) := by omega
            show ARound _ _ _ _
            exact ⟨⟨k + 1, hkl⟩, (by dsimp only; omega), [], (by repeat' first | exact .nil | refine .cons _ _ _ ?_ ?_ | exact .int_eq wk | exact .int_eq w9 | exact .same | exact .c _ _ (.own _ _ rfl) | exact .c _ _ (.ptr _ _ _ _ rfl) | exact .c _ _ (.frz _ _ rfl) | exact .any _), (by exact .nil), (by rfl)⟩
        have hkU : k = U.length := by simp at h; omega
        subst hkU
        rw [List.take_length]
        have hnU : (U.filter (hasA g a)).length ≤ 512 := Nat.le_trans (List.length_filter_le _ _) hUl
        show ∃ n, _
        refine ⟨0, ALoop.inv (ι := {k : Nat // k ≤ F.length}) (fun q => ⟨[(2, .c (.d (.rp (g.enc)))), (7, .c (.d (.sl .int (U)))), (8, .c (.d (.sl .int (F)))), (9, .int (a)), (10, .int (((U.filter (hasA g a)).length + ((F.take q.1).filter (hasA g a)).length : Nat))), (12, .int (q.1))], [], 32⟩) (fun q => F.length - q.1) ⟨0, Nat.zero_le _⟩ ?_ ?_⟩
        · exact ⟨[], (by repeat' first | exact .nil | refine .cons _ _ _ ?_ ?_ | exact .same | exact .c _ _ (.own _ _ rfl) | exact .c _ _ (.ptr _ _ _ _ rfl) | exact .c _ _ (.frz _ _ rfl) | exact .any _), (by exact .nil), (by rfl)⟩
        rintro ⟨k, hk⟩
        show ABr (decide ((k : Int) < (F.length : Int))) _ _
        refine ⟨fun h => ?_, fun h => ?_⟩
        · have hkl : k < F.length := by simpa using h
          have wk : IntKind.i64.wrap ((k : Int) + 1) = ((k + 1 : Nat) : Int) := wrapP (i := k) (by unfold maxN; omega)
          have hst := filt_take hkl (hasA g a)
          have hcl : ((F.take k).filter (hasA g a)).length ≤ 68719476736 := by
            refine Nat.le_trans (List.length_filter_le _ _) ?_
            rw [List.length_take]; omega
          obtain ⟨u, hu⟩ : ∃ u, u = at0 F k := ⟨_, rfl⟩
          have hin : u ∈ F := by
            rw [hu]
            unfold at0
            rw [List.getD_eq_getElem?_getD, List.getElem?_eq_getElem hkl]
            exact List.getElem_mem hkl
          obtain ⟨hu1, hu2⟩ := hFm u hin
          have hr0 := roomAt_nonneg g.pages u
          have hr1 := room_le g.pages u
          have wr : IntKind.i64.wrap (u + roomAt g.pages u) = u + roomAt g.pages u := wrap64 (by omega) (by omega)
          rw [← hu] at hst
          show AOb ((0 : Int) ≤ (k : Int) ∧ (k : Int) < (F.length : Int)) _
          refine ⟨by omega, ?_⟩
          show ABr (decide (at0 F k ≤ a)) _ _
          rw [← hu]
          refine ⟨fun h => ?_, fun h => ?_⟩
          · have h1 := of_decide_eq_true h
            show AOb ((0 : Int) ≤ (k : Int) ∧ (k : Int) < (F.length : Int)) _
            refine ⟨by omega, ?_⟩
            show AOb ((0 : Int) ≤ (k : Int) ∧ (k : Int) < (F.length : Int)) _
            refine ⟨by omega, ?_⟩
            show ADCall _ _ [_, .int (at0 F k)] _ _ _
            rw [← hu]
            refine .mk _ _ (Begins_spec g.pages u) rfl ?_
            show ABr (decide (a < IntKind.i64.wrap (at0 F k + roomAt g.pages u))) _ _
            rw [← hu, wr]
            refine ⟨fun h => ?_, fun h => ?_⟩
            · have h2 := of_decide_eq_true h
              have hq : hasA g a u = true := decide_eq_true ⟨h1, h2⟩
              rw [hq, if_pos rfl] at hst
              have w9 : IntKind.i64.wrap ((((U.filter (hasA g a)).length + ((F.take k).filter (hasA g a)).length : Nat) : Int) + 1) = (((U.filter (hasA g a)).length + ((F.take (k + 1)).filter (hasA g a)).length : Nat) : Int) := by rw [wrap64 (by omega) (by omega)]; omega
              show ARound _ _ _ _
              exact ⟨⟨k + 1, hkl⟩, (by dsimp only; omega), [], (by repeat' first | exact .nil | refine .cons _ _ _ ?_ ?_ | exact .int_eq wk | exact .int_eq w9 | exact .same | exact .c _ _ (.own _ _ rfl) | exact .c _ _ (.ptr _ _ _ _ rfl) | exact .c _ _ (.frz _ _ rfl) | exact .any _), (by exact .nil), (by rfl)⟩
            · have h2 := of_decide_eq_false h
              have hq : hasA g a u = false := decide_eq_false fun x => h2 x.2
              rw [hq, if_neg (by decide)] at hst
              have w9 : (((U.filter (hasA g a)).length + ((F.take k).filter (hasA g a)).length : Nat) : Int) = (((U.filter (hasA g a)).length + ((F.take (k + 1)).filter (hasA g a)).length : Nat) : Int) := by omega
              show ARound _ _ _ _
              exact ⟨⟨k + 1, hkl⟩, (by dsimp only; omega), [], (by repeat' first | exact .nil | refine .cons _ _ _ ?_ ?_ | exact .int_eq wk | exact .int_eq w9 | exact .same | exact .c _ _ (.own _ _ rfl) | exact .c _ _ (.ptr _ _ _ _ rfl) | exact .c _ _ (.frz _ _ rfl) | exact .any _), (by exact .nil), (by rfl)⟩
          · have h1 := of_decide_eq_false h
            have hq : hasA g a u = false := decide_eq_false fun x => h1 x.1
            rw [hq, if_neg (by decide)] at hst
            show ABr _ _ _
            refine ⟨fun h => absurd h (by decide), fun _ => ?_⟩
            have w9 : (((U.filter (hasA g a)).length + ((F.take k).filter (hasA g a)).length : Nat) : Int) = (((U.filter (hasA g a)).length + ((F.take (k + 1)).filter (hasA g a)).length : Nat) : Int) := by omega
            show ARound _ _ _ _
            exact ⟨⟨k + 1, hkl⟩, (by dsimp only; omega), [], (by repeat' first | exact .nil | refine .cons _ _ _ ?_ ?_ | exact .int_eq wk | exact .int_eq w9 | exact .same | exact .c _ _ (.own _ _ rfl) | exact .c _ _ (.ptr _ _ _ _ rfl) | exact .c _ _ (.frz _ _ rfl) | exact .any _), (by exact .nil), (by rfl)⟩
        have hkF : k = F.length := by simp at h; omega
        subst hkF
        rw [List.take_length]
        have h1 := hone a hadr
        have e1 : tdv a 16 = a / 16 := tdv_eq (by omega) (by omega) (by omega)
        have e2 : IntKind.i64.wrap (tdv a 16 - 1) = a / 16 - 1 := by rw [e1]; exact wrap64 (by omega) (by omega)
        show AOb _ _
        refine ⟨by decide, ?_⟩
        show ACall _ _ [_, .int (IntKind.i64.wrap (tdv a 16 - 1)), _] _ _ _
        rw [e2]
        refine call_ret (Free1_spec g.pages (a / 16 - 1) (by omega)) rfl ?_
        show ABr (decide ((pageAt g a).kind = 0)) _ _
        have hfl' : (F.filter (hasA g a)).length ≤ 1 := by omega
        refine ⟨fun h => ?_, fun h => ?_⟩
        · rw [if_pos (of_decide_eq_true h)] at h1
          show ABr (IntKind.i64.wrap ((((U.filter (hasA g a)).length + (F.filter (hasA g a)).length : Nat) : Int) + 1) != 1) _ _
          rw [show (U.filter (hasA g a)).length + (F.filter (hasA g a)).length = 0 by omega]
          show ABr _ _ _
          refine ⟨fun h => absurd h (by decide), fun _ => ?_⟩
          show ARound _ _ _ _
          exact ⟨⟨i + 1, hlt⟩, (by dsimp only; omega), [], (by repeat' first | exact .nil | refine .cons _ _ _ ?_ ?_ | exact .int_eq wa | exact .same | exact .c _ _ (.own _ _ rfl) | exact .c _ _ (.ptr _ _ _ _ rfl) | exact .c _ _ (.frz _ _ rfl) | exact .any _), (by exact .nil), (by rfl)⟩
        · rw [if_neg (of_decide_eq_false h)] at h1
          show ABr ((((U.filter (hasA g a)).length + (F.filter (hasA g a)).length : Nat) : Int) != 1) _ _
          rw [show (U.filter (hasA g a)).length + (F.filter (hasA g a)).length = 1 by omega]
          show ABr _ _ _
          refine ⟨fun h => absurd h (by decide), fun _ => ?_⟩
          show ARound _ _ _ _
          exact ⟨⟨i + 1, hlt⟩, (by dsimp only; omega), [], (by repeat' first | exact .nil | refine .cons _ _ _ ?_ ?_ | exact .int_eq wa | exact .same | exact .c _ _ (.own _ _ rfl) | exact .c _ _ (.ptr _ _ _ _ rfl) | exact .c _ _ (.frz _ _ rfl) | exact .any _), (by exact .nil), (by rfl)⟩
      · show ARet _ _ _
        exact ret_d rfl ⟨rfl, rfl⟩
  · have hcond := few_caches (g := g) (n := cs.length)
    rw [decide_eq_false hc] at hcond
    refine ⟨fun h => absurd h.1 (by rw [hcond]; decide), fun _ => ?_⟩
    show AOb _ _
    refine ⟨by exact hcond, ?_⟩
    show ABr _ _ _
    refine ⟨fun _ => ?_, fun h => absurd h (by simp)⟩
    show ARet _ _ _
    exact ret_d rfl ⟨rfl, rfl⟩
end Go.Abs
