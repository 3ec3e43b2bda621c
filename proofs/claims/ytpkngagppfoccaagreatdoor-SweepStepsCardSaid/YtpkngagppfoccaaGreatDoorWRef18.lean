/- Walks: the document's step of the sweep. -/
import Derived.Test.YtpkngagppfoccaaGreatDoorWSweepA
import Derived.Test.YtpkngagppfoccaaGreatDoorWRefPart
import Derived.Test.YtpkngagppfoccaaGreatDoorWRefDirty
import Derived.Test.YtpkngagppfoccaaGreatDoorWRef07
import Derived.Test.YtpkngagppfoccaaGreatDoorWSweepF
import Derived.Test.YtpkngagppfoccaaGreatDoorWHeapSets
set_option linter.all false
set_option linter.unusedVariables false
set_option linter.unusedSimpArgs false
namespace Go.Abs
open Go.Proofs Go.Proofs.YtpkngagppfoccaaGreatDoor
set_option maxRecDepth 8000

theorem rCells_spec (c : Int) (hc : 0 ≤ c ∧ c ≤ 2) : Spec X 104 [] [.int c] (Ret [] (.int (clsN c))) := by
  refine spec_go X_ok Tryz.f104 (by kernel_rfl) (by kernel_rfl) (by kernel_rfl) fun hb hH => ⟨rfl, ?_⟩
  have h : c = 0 ∨ c = 1 ∨ c = 2 := by omega
  rcases h with rfl | rfl | rfl
  · show ACall _ _ _ _ _ _
    refine call_ret (rWords_spec 0) rfl ?_
    show ABr _ _ _
    refine ⟨fun h => absurd h (by decide), fun _ => ?_⟩
    show AOb _ _
    refine ⟨by decide, ?_⟩
    show ARet _ _ _
    exact ret_d rfl ⟨rfl, rfl⟩
  · show ACall _ _ _ _ _ _
    refine call_ret (rWords_spec 1) rfl ?_
    show ABr _ _ _
    refine ⟨fun h => absurd h (by decide), fun _ => ?_⟩
    show AOb _ _
    refine ⟨by decide, ?_⟩
    show ARet _ _ _
    exact ret_d rfl ⟨rfl, rfl⟩
  · show ACall _ _ _ _ _ _
    refine call_ret (rWords_spec 2) rfl ?_
    show ABr _ _ _
    refine ⟨fun h => absurd h (by decide), fun _ => ?_⟩
    show AOb _ _
    refine ⟨by decide, ?_⟩
    show ARet _ _ _
    exact ret_d rfl ⟨rfl, rfl⟩

theorem find_gt (L : List Int) (a : Int) (i : Nat) (hi : i ≤ L.length) (h : ∀ j, j < i → at0 L j ≤ a) : L.find? (fun s => decide (a < s)) = (L.drop i).find? (fun s => decide (a < s)) := by
  have e : L = L.take i ++ L.drop i := (List.take_append_drop i L).symm
  have hn : (L.take i).find? (fun s => decide (a < s)) = none := by
    rw [List.find?_eq_none]
    intro x hx
    obtain ⟨j, hj, rfl⟩ := List.mem_iff_getElem.1 hx
    rw [List.length_take] at hj
    have := h j (by omega)
    rw [at0_get (by omega)] at this
    rw [List.getElem_take]
    simp; omega
  conv => lhs; rw [e]
  rw [List.find?_append, hn]
  rfl

theorem rNext5_spec (l : List Page) (a : Int) : Spec X 36 [] [.c (.d (.sl .page l)), .int a] (Ret [] (.tup [.int (nextS l a), .bo (nextB l a)])) := by
  refine spec_go X_ok Tryz.f36 (by kernel_rfl) (by kernel_rfl) (by kernel_rfl) fun hb hH => ⟨rfl, ?_⟩
  show ACall _ _ _ _ _ _
  refine .mk _ (rAll5_spec l) fun H r ⟨eH, er⟩ _ _ => ⟨.inl rfl, ?_⟩
  subst eH er
  have hlen : (cellStarts l).length ≤ 512 := by unfold cellStarts; rw [List.length_map]; exact cellsAll_len _
  obtain ⟨L, hL⟩ : ∃ L, L = cellStarts l := ⟨_, rfl⟩
  rw [← hL] at hlen ⊢
  unfold nextS nextB
  rw [← hL]
  show ∃ n, _
  refine ⟨0, ALoop.inv (ι := {i : Nat // i ≤ L.length ∧ ∀ j, j < i → at0 L j ≤ a}) (fun q => ⟨[(1, .int (a)), (6, .c (.d (.sl .int (L)))), (7, .int (q.1))], [], 32⟩) (fun q => L.length - q.1) ⟨0, Nat.zero_le _, fun j hj => absurd hj (by omega)⟩ ?_ ?_⟩
  · exact ⟨[], (by repeat' first | exact .nil | refine .cons _ _ _ ?_ ?_ | exact .same | exact .c _ _ (.own _ _ rfl) | exact .c _ _ (.ptr _ _ _ _ rfl) | exact .c _ _ (.frz _ _ rfl) | exact .any _), (by exact .nil), (by rfl)⟩
  rintro ⟨i, hi, hn⟩
  have hi : i ≤ L.length := hi
  have hn : ∀ j, j < i → at0 L j ≤ a := hn
  show ABr (decide ((i : Int) < (L.length : Int))) _ _
  refine ⟨fun h => ?_, fun h => ?_⟩
  · have hlt : i < L.length := by have := of_decide_eq_true h; omega
    have wi : IntKind.i64.wrap ((i : Int) + 1) = ((i + 1 : Nat) : Int) := wrapP (i := i) (by unfold maxN; omega)
    show AOb ((0 : Int) ≤ (i : Int) ∧ (i : Int) < (L.length : Int)) _
    refine ⟨by omega, ?_⟩
    show ABr (decide (at0 L i > a)) _ _
    by_cases hg : a < at0 L i
    · rw [decide_eq_true (show at0 L i > a from hg)]
      show ABr _ _ _
      refine ⟨fun _ => ?_, fun h => absurd h (by decide)⟩
      show AOb ((0 : Int) ≤ (i : Int) ∧ (i : Int) < (L.length : Int)) _
      refine ⟨by omega, ?_⟩
      have ef : L.find? (fun s => decide (a < s)) = some (at0 L i) := by
        rw [find_gt L a i hi hn, List.drop_eq_getElem_cons hlt, List.find?_cons, ← at0_get hlt, decide_eq_true hg]
      rw [ef]
      show ARet _ _ _
      exact ret_d rfl ⟨rfl, rfl⟩
    · rw [decide_eq_false (show ¬ at0 L i > a from hg)]
      show ABr _ _ _
      refine ⟨fun h => absurd h (by decide), fun _ => ?_⟩
      have hnn : ∀ j, j < i + 1 → at0 L j ≤ a := fun j hj => by
        by_cases e : j = i
        · subst e; omega
        · exact hn j (by omega)
      show ARound _ _ _ _
      exact ⟨⟨i + 1, hlt, hnn⟩, (by dsimp only; omega), [], (by repeat' first | exact .nil | refine .cons _ _ _ ?_ ?_ | exact .int_eq wi | exact .same | exact .c _ _ (.own _ _ rfl) | exact .c _ _ (.ptr _ _ _ _ rfl) | exact .c _ _ (.frz _ _ rfl) | exact .any _), (by exact .nil), (by rfl)⟩
  · have hge : i = L.length := by have := of_decide_eq_false h; omega
    have ef : L.find? (fun s => decide (a < s)) = none := by
      rw [find_gt L a i hi hn, hge, List.drop_length]; rfl
    rw [ef]
    show ARet _ _ _
    exact ret_d rfl ⟨rfl, rfl⟩

/-- The first pages of a run behind its first one, let go. -/
def setsP (l : List Page) (i : Nat) : Nat → List Page
  | 0 => l
  | j + 1 => (setsP l i j).set (i + 1 + j) ⟨0, 0⟩
theorem setsP_len (l : List Page) (i : Nat) : ∀ j, (setsP l i j).length = l.length
  | 0 => rfl
  | j + 1 => by unfold setsP; rw [List.length_set]; exact setsP_len l i j
theorem setsP_get (l : List Page) (i m : Nat) : ∀ j, (setsP l i j)[m]? = if i + 1 ≤ m ∧ m < i + 1 + j ∧ m < l.length then some ⟨0, 0⟩ else l[m]?
  | 0 => by rw [if_neg (by omega)]; rfl
  | j + 1 => by
    unfold setsP
    rw [List.getElem?_set, setsP_len, setsP_get l i m j]
    by_cases h : i + 1 + j = m
    · rw [if_pos h]
      by_cases h2 : i + 1 + j < l.length
      · rw [if_pos h2, if_pos (by omega)]
      · rw [if_neg h2, if_neg (by omega), List.getElem?_eq_none (by omega)]
    · rw [if_neg h]
      by_cases h2 : i + 1 ≤ m ∧ m < i + 1 + j ∧ m < l.length
      · rw [if_pos h2, if_pos (by omega)]
      · rw [if_neg h2, if_neg (by omega)]
theorem setsP_drop {l : List Page} {i : Nat} (hd : Drops l i) : (setsP l i (sizeP (l.getD i default) - 1)).set i ⟨0, 0⟩ = dropP l i := by
  obtain ⟨a1, a2, _, _⟩ := hd.all
  rw [hd.eq]
  generalize sizeP (l.getD i default) = n at *
  apply List.ext_getElem?
  intro m
  rw [List.getElem?_set, setsP_len, setsP_get, List.append_assoc]
  by_cases h : i = m
  · subst h
    rw [if_pos rfl, if_pos (by omega), List.getElem?_append_right (by rw [List.length_take]; omega), List.getElem?_append_left (by rw [List.length_take, List.length_replicate]; omega), List.getElem?_replicate, if_pos (by rw [List.length_take]; omega)]
  · rw [if_neg h]
    by_cases h1 : m < i
    · rw [if_neg (by omega), List.getElem?_append_left (by rw [List.length_take]; omega), List.getElem?_take, if_pos h1]
    · by_cases h2 : m < i + n
      · rw [if_pos (by omega), List.getElem?_append_right (by rw [List.length_take]; omega), List.getElem?_append_left (by rw [List.length_take, List.length_replicate]; omega), List.getElem?_replicate, if_pos (by rw [List.length_take]; omega)]
      · rw [if_neg (by omega), List.getElem?_append_right (by rw [List.length_take]; omega), List.getElem?_append_right (by rw [List.length_take, List.length_replicate]; omega), List.getElem?_drop]
        congr 1
        rw [List.length_take, List.length_replicate]
        omega

theorem rDrop4_spec (l : List Page) (i : Int) (h0 : 0 ≤ i) (hd : Drops l i.toNat) : Spec X 76 [] [.c (.d (.sl .page l)), .int i] (Ret [] (.tup [.c (.d (.sl .page (dropP l i.toNat))), .int 0])) := by
  refine spec_go X_ok Tryz.f76 (by kernel_rfl) (by kernel_rfl) (by kernel_rfl) fun hb hH => ⟨rfl, ?_⟩
  have hlt := hd.lt
  have hk := hd.kind
  have hf := drops_fit hd
  obtain ⟨a1, a2, _, _⟩ := hd.all
  have hl64 := (mayP_ok hd.may).2.2
  have hz := setsP_drop hd
  have hil : i < (l.length : Int) := by omega
  unfold sizeP at a1 a2 hz
  show ACall _ _ _ _ _ _
  refine call_ret (rpMay_spec l) rfl ?_
  rw [hd.may]
  show ABr _ _ _
  refine ⟨fun h => absurd h (by decide), fun _ => ?_⟩
  show AOb _ _
  refine ⟨by exact fun _ => ⟨h0, hil⟩, ?_⟩
  show AOb _ _
  refine ⟨by exact fun _ => ⟨h0, hil⟩, ?_⟩
  show ABr (bif bif decide (i < 0) then true else decide (i ≥ (l.length : Int)) then true else bif (l.getD i.toNat default).kind != 1 then (l.getD i.toNat default).kind != 2 else false) _ _
  rw [decide_eq_false (show ¬ i < 0 by omega), decide_eq_false (show ¬ i ≥ (l.length : Int) by omega), show (bif (bif false then true else false) then true else bif (l.getD i.toNat default).kind != 1 then (l.getD i.toNat default).kind != 2 else false) = false by rcases hk with hk | hk <;> rw [hk] <;> rfl]
  show ABr _ _ _
  refine ⟨fun h => absurd h (by decide), fun _ => ?_⟩
  show AOb (l.length ≤ most) _
  refine ⟨by unfold most; omega, ?_⟩
  show AOb ((0 : Int) ≤ i ∧ i < (l.length : Int)) _
  refine ⟨⟨h0, hil⟩, ?_⟩
  show ABr ((l.getD i.toNat default).kind == 2) _ _
  by_cases h2 : (l.getD i.toNat default).kind = 2
  · rw [if_pos h2] at a1 a2 hz
    rw [show ((l.getD i.toNat default).kind == 2) = true by simpa using h2]
    show ABr _ _ _
    refine ⟨fun _ => ?_, fun h => absurd h (by decide)⟩
    show ∃ n, _
    refine ⟨0, ALoop.inv (ι := {k : Nat // 1 ≤ k ∧ k ≤ (l.getD i.toNat default).arg.toNat}) (fun q => ⟨[(0, .c (.d (.sl .page (l)))), (1, .int (i)), (7, .c (.own 1)), (8, .int ((q.1 : Int)))], [(1, .data .page (setsP l i.toNat (q.1 - 1)))], 64⟩) (fun q => (l.getD i.toNat default).arg.toNat - q.1) ⟨1, Nat.le_refl _, a2⟩ ?_ ?_⟩
    · exact ⟨[(1056, 1)], (by repeat' first | exact .nil | refine .cons _ _ _ ?_ ?_ | exact .same | exact .c _ _ (.own _ _ rfl) | exact .c _ _ (.ptr _ _ _ _ rfl) | exact .c _ _ (.frz _ _ rfl) | exact .any _), (by exact .old 1 1056 _ _ _ rfl rfl (.data_eq rfl) .nil), (by rfl)⟩
    rintro ⟨k, hk1, hk2⟩
    have hk1 : 1 ≤ k := hk1
    have hk2 : k ≤ (l.getD i.toNat default).arg.toNat := hk2
    show AOb ((0 : Int) ≤ i ∧ i < (l.length : Int)) _
    refine ⟨⟨h0, hil⟩, ?_⟩
    show ABr (decide ((k : Int) < (l.getD i.toNat default).arg)) _ _
    refine ⟨fun h => ?_, fun h => ?_⟩
    · have hlt2 : k < (l.getD i.toNat default).arg.toNat := by have := of_decide_eq_true h; omega
      have wk : IntKind.i64.wrap ((k : Int) + 1) = ((k + 1 : Nat) : Int) := wrapP (i := k) (by unfold maxN; omega)
      have wi : IntKind.i64.wrap (i + (k : Int)) = i + (k : Int) := wrap64 (by omega) (by omega)
      have hsl := setsP_len l i.toNat (k - 1)
      show AOb ((0 : Int) ≤ IntKind.i64.wrap (i + (k : Int)) ∧ IntKind.i64.wrap (i + (k : Int)) < ((setsP l i.toNat (k - 1)).length : Int)) _
      refine ⟨by rw [wi, hsl]; omega, ?_⟩
      show AOb (_ < (setsP l i.toNat (k - 1)).length) _
      refine ⟨by rw [wi, hsl]; omega, ?_⟩
      have es : (setsP l i.toNat (k - 1)).set (IntKind.i64.wrap (i + (k : Int))).toNat ⟨0, 0⟩ = setsP l i.toNat (k + 1 - 1) := by
        rw [wi, show k + 1 - 1 = (k - 1) + 1 by omega, setsP, show (i + (k : Int)).toNat = i.toNat + 1 + (k - 1) by omega]
      show ARound _ _ _ _
      exact ⟨⟨k + 1, by omega, by omega⟩, (by dsimp only; omega), [(1, 1)], (by repeat' first | exact .nil | refine .cons _ _ _ ?_ ?_ | exact .int_eq wk | exact .same | exact .c _ _ (.own _ _ rfl) | exact .c _ _ (.ptr _ _ _ _ rfl) | exact .c _ _ (.frz _ _ rfl) | exact .any _), (by exact .old 1 1 _ _ _ rfl rfl (.data_eq es) .nil), (by rfl)⟩
    · have hke : k = (l.getD i.toNat default).arg.toNat := by have := of_decide_eq_false h; omega
      have hsl := setsP_len l i.toNat (k - 1)
      show AOb ((0 : Int) ≤ i ∧ i < ((setsP l i.toNat (k - 1)).length : Int)) _
      refine ⟨⟨h0, by rw [hsl]; exact hil⟩, ?_⟩
      show AOb (_ < (setsP l i.toNat (k - 1)).length) _
      refine ⟨by rw [hsl]; exact hlt, ?_⟩
      rw [← hke] at hz
      show ARet _ _ _
      exact ⟨[], [], [.c (.d (.sl .page (dropP l i.toNat))), .int 0], .cons _ _ _ _ (.frz rfl hz) (.cons _ _ _ _ .same .nil), .nil, rfl, rfl, rfl⟩
  · rw [if_neg h2] at a1 a2 hz
    rw [show ((l.getD i.toNat default).kind == 2) = false by simpa using h2]
    show ABr _ _ _
    refine ⟨fun h => absurd h (by decide), fun _ => ?_⟩
    show AOb ((0 : Int) ≤ i ∧ i < (l.length : Int)) _
    refine ⟨⟨h0, hil⟩, ?_⟩
    show AOb (i.toNat < l.length) _
    refine ⟨hlt, ?_⟩
    show ARet _ _ _
    exact ⟨[], [], [.c (.d (.sl .page (dropP l i.toNat))), .int 0], .cons _ _ _ _ (.frz rfl hz) (.cons _ _ _ _ .same .nil), .nil, rfl, rfl, rfl⟩

theorem rOwn7a_spec (g : Hp) (hs : g.small) : Spec X 11 [] [g.tv] (Ret [(0, .data .int g.w), (1, .data .int g.free.l0), (2, .data .int g.free.l1), (3, .data .int g.free.l2)] (.agg [.own 0, .d (.sl .page g.pages), .own 1, .own 2, .own 3, .d (.sl .bool g.cards)])) := by
  refine spec_go X_ok Tryz.f11 (by kernel_rfl) (by kernel_rfl) (by kernel_rfl) fun hb hH => ⟨rfl, ?_⟩
  obtain ⟨h1, h2, h3, h4, h5, h6⟩ := hs
  show ACall _ _ _ _ _ _
  refine .mk _ (rOwn_own g.free ⟨h4, h5, h6⟩) fun H r ⟨eH, er⟩ _ _ => ⟨.inl rfl, ?_⟩
  subst eH er
  show AOb (g.w.length ≤ most) _
  refine ⟨h1, ?_⟩
  show AOb (g.pages.length ≤ most) _
  refine ⟨h2, ?_⟩
  show AOb (g.cards.length ≤ most) _
  refine ⟨h3, ?_⟩
  show ARet _ _ _
  exact ⟨[(416, 0), (160, 1), (161, 2), (162, 3)], [(0, .data .int g.w), (1, .data .int g.free.l0), (2, .data .int g.free.l1), (3, .data .int g.free.l2)], [_], .cons _ _ _ _ (.agg _ _ (.cons _ _ _ _ (.own _ _ rfl) (.cons _ _ _ _ (.frz_eq (k := .page) (l := g.pages) rfl rfl) (.cons _ _ _ _ (.own _ _ rfl) (.cons _ _ _ _ (.own _ _ rfl) (.cons _ _ _ _ (.own _ _ rfl) (.cons _ _ _ _ (.frz_eq (k := .bool) (l := g.cards) rfl rfl) .nil))))))) .nil, .old 0 416 _ _ _ rfl rfl (.data_eq rfl) (.old 1 160 _ _ _ rfl rfl (.data_eq rfl) (.old 2 161 _ _ _ rfl rfl (.data_eq rfl) (.old 3 162 _ _ _ rfl rfl (.data_eq rfl) .nil))), rfl, rfl, rfl⟩

theorem rback_spec (g : Hp) (i : Int) (hs : g.small) (hm : mayH g [] = true) (h0 : 0 ≤ i) (hd : Drops g.pages i.toNat) (hk : (g.pages.getD i.toNat default).kind = 1) : Spec X 77 [] [g.tv, .int i] (Ret [] (backH g i).tv) := by
  refine spec_go X_ok Tryz.f77 (by kernel_rfl) (by kernel_rfl) (by kernel_rfl) fun hb hH => ⟨rfl, ?_⟩
  have hlt := hd.lt
  have hl64 := (mayP_ok hd.may).2.2
  have harg := ((mayP_ok hd.may).1 i.toNat hlt).1 hk
  have e1 : IntKind.i64.wrap (16 + IntKind.i64.wrap (16 * i)) = 16 * (i + 1) := by rw [wrap64 (n := 16 * i) (by omega) (by omega), wrap64 (by omega) (by omega)]; omega
  have e2 : IntKind.i64.wrap (32 + IntKind.i64.wrap (16 * i)) = 16 * (i + 1) + 16 := by rw [wrap64 (n := 16 * i) (by omega) (by omega), wrap64 (by omega) (by omega)]; omega
  show AOb ((0 : Int) ≤ i ∧ i < (g.pages.length : Int)) _
  refine ⟨by omega, ?_⟩
  show ABr ((g.pages.getD i.toNat default).kind != 1) _ _
  rw [show ((g.pages.getD i.toNat default).kind != 1) = false by rw [hk]; rfl]
  show ABr _ _ _
  refine ⟨fun h => absurd h (by decide), fun _ => ?_⟩
  have sp : Spec X 103 [] [g.free.tv, .int (g.pages.getD i.toNat default).arg, .int (IntKind.i64.wrap (16 + IntKind.i64.wrap (16 * i))), .int (IntKind.i64.wrap (32 + IntKind.i64.wrap (16 * i)))] (Ret [] (.tup [(g.free.set_ (g.pages.getD i.toNat default).arg (staysH g i)).tv, .c (.d (.sl .int (outsH g i))), .int 0])) := by
    rw [e1, e2]
    exact rPart_spec g.free _ _ _ harg hs.2.2.2
  show ACall _ _ _ _ _ _
  refine call_ret (sp) rfl ?_
  show ACall _ _ _ _ _ _
  refine call_ret (rCells_spec (g.pages.getD i.toNat default).arg harg) rfl ?_
  have hle := (outs_all hm h0 hd hk).1
  show ABr (decide (((outsH g i).length : Int) < clsN (g.pages.getD i.toNat default).arg)) _ _
  unfold backH
  by_cases hn : ((outsH g i).length : Int) = clsN (g.pages.getD i.toNat default).arg
  · rw [if_pos hn, decide_eq_false (by omega)]
    show ABr _ _ _
    refine ⟨fun h => absurd h (by decide), fun _ => ?_⟩
    show ACall _ _ _ _ _ _
    refine call_ret (rOwn7f_spec g hs) rfl ?_
    show ACall _ _ _ _ _ _
    refine call_ret (rDrop4_spec g.pages i h0 hd) rfl ?_
    show ARet _ _ _
    exact ret_d rfl ⟨rfl, rfl⟩
  · rw [if_neg hn, decide_eq_true (show ((outsH g i).length : Int) < clsN (g.pages.getD i.toNat default).arg by omega)]
    show ABr _ _ _
    refine ⟨fun _ => ?_, fun h => absurd h (by decide)⟩
    show ARet _ _ _
    exact ret_d rfl ⟨rfl, rfl⟩

theorem FrC.frz_eq {D : List Nat} {h : Heap} {x : CV} {k : EK} {l m : List k.T} (h1 : lendC (fun b => D.contains b) h 8 x = some (.sl k l)) (e : l = m) : FrC D h x (.d (.sl k m)) := by subst e; exact .frz _ _ h1
theorem splice_zero (w : List Int) (o j : Nat) (h : o + j < w.length) : (splice w o (List.replicate j (0 : Int))).set (o + j) 0 = splice w o (List.replicate (j + 1) (0 : Int)) := by
  unfold splice
  rw [List.length_replicate, List.length_replicate, List.append_assoc, List.append_assoc, List.set_append_right _ _ (by rw [List.length_take]; omega), List.set_append_right _ _ (by rw [List.length_take, List.length_replicate]; omega), List.length_take, List.length_replicate]
  rw [show o + j - min o w.length - j = 0 by omega, List.replicate_succ', List.append_assoc]
  congr 2
  rw [List.drop_eq_getElem_cons (show o + j < w.length from h), List.set_cons_zero]
  rfl

set_option maxRecDepth 60000 in
set_option maxHeartbeats 2000000 in
theorem rFree9_spec (g : Hp) (a : Int) (hl : g.light) (hs : g.small) (hw : ∀ x ∈ g.w, I64 x) : Spec X 37 [] [g.tv, .int a] (Ret [] (.tup [(freeH g a).tv, .int (headE g a)])) := by
  refine Spec.fz (spec_go Xf_ok Tryz.f37 (by kernel_rfl) (by kernel_rfl) (by kernel_rfl) fun hb hH => ⟨rfl, ?_⟩)
  show ACall _ _ _ _ _ _
  refine call_ret ((rHead7_spec g a hl hw).uz) rfl ?_
  unfold freeH
  by_cases hE : headE g a = 0
  · show ABr (headE g a != 0) _ _
    rw [if_pos hE, show (headE g a != 0) = false by simpa using hE]
    show ABr _ _ _
    refine ⟨fun h => absurd h (by decide), fun _ => ?_⟩
    obtain ⟨hm, hr, _⟩ := headE_of hE
    obtain ⟨hn0, hd⟩ := head_drops hE
    obtain ⟨z1, z2, z3, z4⟩ := head_room hE
    obtain ⟨_, _, hwl, _, _, hl64⟩ := shapedH_of (mayH_shaped hm)
    have hlt := hd.lt
    have hwl' : (freeW g a).length = g.w.length := freeW_len hE
    show ACall _ _ _ _ _ _
    refine .mk _ (rOwn7a_spec g hs).uz fun H r ⟨eH, er⟩ _ _ => ⟨.inl rfl, ?_⟩
    subst eH er
    show ACall _ _ _ _ _ _
    refine call_ret ((Begins_spec g.pages a).uz) rfl ?_
    have hlen : ∀ j, (a - 16).toNat + j ≤ g.w.length → (splice g.w (a - 16).toNat (List.replicate j (0 : Int))).length = g.w.length := fun j hj => splice_length _ _ _ (by rw [List.length_replicate]; exact hj)
    show ∃ n, _
    refine ⟨0, ALoop.inv (ι := {j : Nat // (j : Int) ≤ roomAt g.pages a}) (fun q => ⟨[(1, .int (a)), (2, .c (.d (.rp (g.enc)))), (4, .c (.ptr 0 0 0)), (8, .c (.ptr 1 0 0)), (9, .int (roomAt g.pages a)), (10, .int ((q.1 : Int)))], [(0, .vars [.d .nilsl, .d .nilsl, .d .nilsl, .d .nilsl, .d .nilsl, .d .nilsl]), (1, .vars [.own 2, .d (.sl .page g.pages), .own 3, .own 4, .own 5, .d (.sl .bool g.cards)]), (2, .data .int (splice g.w (a - 16).toNat (List.replicate q.1 (0 : Int)))), (3, .data .int g.free.l0), (4, .data .int g.free.l1), (5, .data .int g.free.l2)], 192⟩) (fun q => (roomAt g.pages a).toNat - q.1) ⟨0, by show (0 : Int) ≤ _; omega⟩ ?_ ?_⟩
    · exact ⟨[(64, 0), (544, 1), (512, 2), (513, 3), (514, 4), (515, 5)], (by repeat' first | exact .nil | refine .cons _ _ _ ?_ ?_ | exact .same | exact .c _ _ (.own _ _ rfl) | exact .c _ _ (.ptr _ _ _ _ rfl) | exact .c _ _ (.frz _ _ rfl) | exact .any _), (by exact .old 0 64 _ _ _ rfl rfl (.vars _ _ (LeL_refl rfl)) (.old 1 544 _ _ _ rfl rfl (.vars _ _ (.cons _ _ _ _ (.own _ _ rfl) (.cons _ _ _ _ (.d _) (.cons _ _ _ _ (.own _ _ rfl) (.cons _ _ _ _ (.own _ _ rfl) (.cons _ _ _ _ (.own _ _ rfl) (.cons _ _ _ _ (.d _) .nil))))))) (.old 2 512 _ _ _ rfl rfl (.data_eq (splice_nil _ _).symm) (.old 3 513 _ _ _ rfl rfl (.data_eq rfl) (.old 4 514 _ _ _ rfl rfl (.data_eq rfl) (.old 5 515 _ _ _ rfl rfl (.data_eq rfl) .nil)))))), (by rfl)⟩
    rintro ⟨j, hj⟩
    have hj : (j : Int) ≤ roomAt g.pages a := hj
    have hjl := hlen j (by omega)
    show ABr (decide ((j : Int) < roomAt g.pages a)) _ _
    refine ⟨fun h => ?_, fun h => ?_⟩
    · have hlt2 : (j : Int) < roomAt g.pages a := of_decide_eq_true h
      have wj : IntKind.i64.wrap ((j : Int) + 1) = ((j + 1 : Nat) : Int) := wrapP (i := j) (by unfold maxN; omega)
      have wa : IntKind.i64.wrap (IntKind.i64.wrap (a + (j : Int)) - 16) = a + (j : Int) - 16 := by rw [wrap64 (n := a + (j : Int)) (by omega) (by omega), wrap64 (by omega) (by omega)]
      show AOb ((0 : Int) ≤ IntKind.i64.wrap (IntKind.i64.wrap (a + (j : Int)) - 16) ∧ IntKind.i64.wrap (IntKind.i64.wrap (a + (j : Int)) - 16) < ((splice g.w (a - 16).toNat (List.replicate j (0 : Int))).length : Int)) _
      refine ⟨by rw [wa, hjl]; omega, ?_⟩
      show AOb (_ < (splice g.w (a - 16).toNat (List.replicate j (0 : Int))).length) _
      refine ⟨by rw [wa, hjl]; omega, ?_⟩
      have es : (splice g.w (a - 16).toNat (List.replicate j (0 : Int))).set (IntKind.i64.wrap (IntKind.i64.wrap (a + (j : Int)) - 16)).toNat 0 = splice g.w (a - 16).toNat (List.replicate (j + 1) (0 : Int)) := by
        rw [wa, show (a + (j : Int) - 16).toNat = (a - 16).toNat + j by omega]
        exact splice_zero _ _ _ (by omega)
      show ARound _ _ _ _
      exact ⟨⟨j + 1, by omega⟩, (by dsimp only; omega), [(0, 0), (1, 1), (2, 2), (3, 3), (4, 4), (5, 5)], (by repeat' first | exact .nil | refine .cons _ _ _ ?_ ?_ | exact .int_eq wj | exact .same | exact .c _ _ (.own _ _ rfl) | exact .c _ _ (.ptr _ _ _ _ rfl) | exact .c _ _ (.frz _ _ rfl) | exact .any _), (by exact .old 0 0 _ _ _ rfl rfl (.vars _ _ (LeL_refl rfl)) (.old 1 1 _ _ _ rfl rfl (.vars _ _ (.cons _ _ _ _ (.own _ _ rfl) (.cons _ _ _ _ (.d _) (.cons _ _ _ _ (.own _ _ rfl) (.cons _ _ _ _ (.own _ _ rfl) (.cons _ _ _ _ (.own _ _ rfl) (.cons _ _ _ _ (.d _) .nil))))))) (.old 2 2 _ _ _ rfl rfl (.data_eq es) (.old 3 3 _ _ _ rfl rfl (.data_eq rfl) (.old 4 4 _ _ _ rfl rfl (.data_eq rfl) (.old 5 5 _ _ _ rfl rfl (.data_eq rfl) .nil)))))), (by rfl)⟩
    · have hje : (j : Int) = roomAt g.pages a := by have := of_decide_eq_false h; omega
      have ew : splice g.w (a - 16).toNat (List.replicate j (0 : Int)) = freeW g a := by
        unfold freeW
        rw [show (roomAt g.pages a).toNat = j by omega]
      have hpl : pgI a < (g.pages.length : Int) := by omega
      have ep : IntKind.i64.wrap (IntKind.i64.wrap (a.tdiv 16) - 1) = pgI a := by
        show IntKind.i64.wrap (tdv a 16 - 1) = pgI a
        rw [tdv_eq (by omega) (by omega) (by omega)]
        exact wrap64 (by omega) (by omega)
      show AOb _ _
      refine ⟨by decide, ?_⟩
      conv => whnf
      rw [ep]
      show AOb ((0 : Int) ≤ pgI a ∧ pgI a < (g.pages.length : Int)) _
      refine ⟨⟨hn0, hpl⟩, ?_⟩
      show ABr ((g.pages.getD (pgI a).toNat default).kind == 2) _ _
      by_cases hk : (g.pages.getD (pgI a).toNat default).kind = 2
      · rw [if_pos hk, show ((g.pages.getD (pgI a).toNat default).kind == 2) = true by simpa using hk]
        show ABr _ _ _
        refine ⟨fun _ => ?_, fun h => absurd h (by decide)⟩
        show ACall _ _ _ _ _ _
        refine call_ret ((rDrop4_spec g.pages (pgI a) hn0 hd).uz) rfl ?_
        rw [hE]
        show ARet _ _ _
        exact ⟨[], [], [(⟨freeW g a, dropP g.pages (pgI a).toNat, g.free, g.cards⟩ : Hp).tv, .int 0], .cons _ _ _ _ (.agg _ _ (.cons _ _ _ _ (.frz_eq rfl ew) (.cons _ _ _ _ (.d _) (.cons _ _ _ _ (.frz _ _ rfl) (.cons _ _ _ _ (.frz _ _ rfl) (.cons _ _ _ _ (.frz _ _ rfl) (.cons _ _ _ _ (.d _) .nil))))))) (.cons _ _ _ _ .same .nil), .nil, rfl, rfl, rfl⟩
      · rw [if_neg hk, show ((g.pages.getD (pgI a).toNat default).kind == 2) = false by simpa using hk]
        show ABr _ _ _
        refine ⟨fun h => absurd h (by decide), fun _ => ?_⟩
        show AOb ((0 : Int) ≤ pgI a ∧ pgI a < (g.pages.length : Int)) _
        refine ⟨⟨hn0, hpl⟩, ?_⟩
        have hk1 := hd.kind.resolve_right hk
        have fr := freed_push hm hE hk1
        have harg := ((mayP_ok hd.may).1 _ hlt).1 hk1
        have hl1 := may_at hm (g.pages.getD (pgI a).toNat default).arg
        have hsp : (pushedH g a).small := by
          refine ⟨by show (freeW g a).length ≤ _; rw [hwl']; exact hs.1, hs.2.1, hs.2.2.1, ?_⟩
          exact ok_set hs.2.2.2 (by rw [List.length_append]; show (g.free.at_ (g.pages.getD (pgI a).toNat default).arg).length + 1 ≤ _; unfold most; omega)
        have hbk := (rback_spec (pushedH g a) (pgI a) hsp fr.may hn0 hd hk1).uz
        have hq : pushedH g a = ⟨freeW g a, g.pages, g.free.set_ (g.pages.getD (pgI a).toNat default).arg (g.free.at_ (g.pages.getD (pgI a).toNat default).arg ++ [a]), g.cards⟩ := rfl
        have hc : (g.pages.getD (pgI a).toNat default).arg = 0 ∨ (g.pages.getD (pgI a).toNat default).arg = 1 ∨ (g.pages.getD (pgI a).toNat default).arg = 2 := by omega
        conv => whnf
        rcases hc with e | e | e
        · have e2 : Page.arg (@List.getD (EK.T .page) g.pages (pgI a).toNat (@default (EK.T .page) (EK.inh .page))) = 0 := e
          rw [e] at hq hl1
          rw [e2]
          show AOb _ _
          refine ⟨by decide, ?_⟩
          show AOb ((g.free.l0).length + 1 ≤ most) _
          refine ⟨by have hl1 : (g.free.l0).length ≤ 512 := hl1; unfold most; omega, ?_⟩
          show AOb _ _
          refine ⟨by decide, ?_⟩
          show ACall _ _ _ _ _ _
          refine .frz [2, 1088, 4, 5] [(1, .vars ((pushedH g a).enc.map .d))] [(pushedH g a).tv, .int (pgI a)] _ rfl
            (.vars _ _ _ _ rfl rfl (by rw [hq]; exact .cons _ _ _ _ (.frz_eq rfl ew) (.cons _ _ _ _ (.same _) (.cons _ _ _ _ (.frz _ _ rfl) (.cons _ _ _ _ (.frz _ _ rfl) (.cons _ _ _ _ (.frz _ _ rfl) (.cons _ _ _ _ (.same _) .nil)))))) .nil)
            (.cons _ _ _ _ (.agg _ _ (by rw [hq]; exact .cons _ _ _ _ (.frz_eq rfl ew) (.cons _ _ _ _ (.same _) (.cons _ _ _ _ (.frz _ _ rfl) (.cons _ _ _ _ (.frz _ _ rfl) (.cons _ _ _ _ (.frz _ _ rfl) (.cons _ _ _ _ (.same _) .nil))))))) (.cons _ _ _ _ (.c _ _ (.same _)) .nil)) rfl hbk ?_
          rintro H r ⟨rfl, rfl⟩ _ _
          show ARet _ _ _
          exact ret_d rfl ⟨rfl, by rw [hE]; rfl⟩
        · have e2 : Page.arg (@List.getD (EK.T .page) g.pages (pgI a).toNat (@default (EK.T .page) (EK.inh .page))) = 1 := e
          rw [e] at hq hl1
          rw [e2]
          show AOb _ _
          refine ⟨by decide, ?_⟩
          show AOb ((g.free.l1).length + 1 ≤ most) _
          refine ⟨by have hl1 : (g.free.l1).length ≤ 512 := hl1; unfold most; omega, ?_⟩
          show AOb _ _
          refine ⟨by decide, ?_⟩
          show ACall _ _ _ _ _ _
          refine .frz [2, 1088, 3, 5] [(1, .vars ((pushedH g a).enc.map .d))] [(pushedH g a).tv, .int (pgI a)] _ rfl
            (.vars _ _ _ _ rfl rfl (by rw [hq]; exact .cons _ _ _ _ (.frz_eq rfl ew) (.cons _ _ _ _ (.same _) (.cons _ _ _ _ (.frz _ _ rfl) (.cons _ _ _ _ (.frz _ _ rfl) (.cons _ _ _ _ (.frz _ _ rfl) (.cons _ _ _ _ (.same _) .nil)))))) .nil)
            (.cons _ _ _ _ (.agg _ _ (by rw [hq]; exact .cons _ _ _ _ (.frz_eq rfl ew) (.cons _ _ _ _ (.same _) (.cons _ _ _ _ (.frz _ _ rfl) (.cons _ _ _ _ (.frz _ _ rfl) (.cons _ _ _ _ (.frz _ _ rfl) (.cons _ _ _ _ (.same _) .nil))))))) (.cons _ _ _ _ (.c _ _ (.same _)) .nil)) rfl hbk ?_
          rintro H r ⟨rfl, rfl⟩ _ _
          show ARet _ _ _
          exact ret_d rfl ⟨rfl, by rw [hE]; rfl⟩
        · have e2 : Page.arg (@List.getD (EK.T .page) g.pages (pgI a).toNat (@default (EK.T .page) (EK.inh .page))) = 2 := e
          rw [e] at hq hl1
          rw [e2]
          show AOb _ _
          refine ⟨by decide, ?_⟩
          show AOb ((g.free.l2).length + 1 ≤ most) _
          refine ⟨by have hl1 : (g.free.l2).length ≤ 512 := hl1; unfold most; omega, ?_⟩
          show AOb _ _
          refine ⟨by decide, ?_⟩
          show ACall _ _ _ _ _ _
          refine .frz [2, 1088, 3, 4] [(1, .vars ((pushedH g a).enc.map .d))] [(pushedH g a).tv, .int (pgI a)] _ rfl
            (.vars _ _ _ _ rfl rfl (by rw [hq]; exact .cons _ _ _ _ (.frz_eq rfl ew) (.cons _ _ _ _ (.same _) (.cons _ _ _ _ (.frz _ _ rfl) (.cons _ _ _ _ (.frz _ _ rfl) (.cons _ _ _ _ (.frz _ _ rfl) (.cons _ _ _ _ (.same _) .nil)))))) .nil)
            (.cons _ _ _ _ (.agg _ _ (by rw [hq]; exact .cons _ _ _ _ (.frz_eq rfl ew) (.cons _ _ _ _ (.same _) (.cons _ _ _ _ (.frz _ _ rfl) (.cons _ _ _ _ (.frz _ _ rfl) (.cons _ _ _ _ (.frz _ _ rfl) (.cons _ _ _ _ (.same _) .nil))))))) (.cons _ _ _ _ (.c _ _ (.same _)) .nil)) rfl hbk ?_
          rintro H r ⟨rfl, rfl⟩ _ _
          show ARet _ _ _
          exact ret_d rfl ⟨rfl, by rw [hE]; rfl⟩
  · show ABr (headE g a != 0) _ _
    rw [if_neg hE, show (headE g a != 0) = true by simpa using hE]
    show ABr _ _ _
    refine ⟨fun _ => ?_, fun h => absurd h (by decide)⟩
    show ARet _ _ _
    exact ⟨[], [], _, .cons _ _ _ _ (.agg _ _ (.cons _ _ _ _ (.nilsl .int) (.cons _ _ _ _ (.nilsl .page) (.cons _ _ _ _ (.nilsl .int) (.cons _ _ _ _ (.nilsl .int) (.cons _ _ _ _ (.nilsl .int) (.cons _ _ _ _ (.nilsl .bool) .nil))))))) (.cons _ _ _ _ .same .nil), .nil, rfl, rfl, rfl⟩

set_option maxRecDepth 60000 in
set_option maxHeartbeats 2000000 in
theorem rStep18_spec (g : Hp) (c : Col) (hl : g.light) (hs : g.small) (hw : ∀ x ∈ g.w, I64 x) (hk : c.work.length ≤ most) : Spec X 13 [] [g.tv, c.tv] (Ret [] (.tup [(sweepS g c).1.tv, (sweepS g c).2.tv])) := by
  refine spec_go X_ok Tryz.f13 (by kernel_rfl) (by kernel_rfl) (by kernel_rfl) fun hb hH => ⟨rfl, ?_⟩
  show ACall _ _ _ _ _ _
  refine call_ret (rOwn7f_spec g hs) rfl ?_
  show ACall _ _ _ _ _ _
  refine call_ret (rcOwnf_spec c hk) rfl ?_
  show ACall _ _ _ _ _ _
  refine call_ret (rMay70_spec g hl hw) rfl ?_
  unfold sweepS
  by_cases hm : mayH g [] = true ∧ c.phase = 6
  · obtain ⟨hm, hp⟩ := hm
    rw [if_pos ⟨hm, hp⟩]
    show ABr (bif !mayH g [] then true else c.phase != 6) _ _
    rw [hm, show (c.phase != 6) = false by rw [hp]; rfl]
    show ABr _ _ _
    refine ⟨fun h => absurd h (by decide), fun _ => ?_⟩
    show ABr c.met _ _
    refine ⟨fun hmet => ?_, fun hmet => ?_⟩
    · rw [if_pos hmet]
      unfold ageG
      show ACall _ _ _ _ _ _
      refine call_ret (rFate18_spec g c c.seek hl hw) rfl ?_
      by_cases hf : fateH g c c.seek = 2
      · rw [if_pos hf]
        show ABr (fateH g c c.seek == 2) _ _
        rw [show (fateH g c c.seek == 2) = true by simpa using hf]
        show ABr _ _ _
        refine ⟨fun _ => ?_, fun h => absurd h (by decide)⟩
        show ACall _ _ _ _ _ _
        refine call_ret (rHead7_spec g c.seek hl hw) rfl ?_
        show ACall _ _ _ _ _ _
        refine call_ret (rSet7_spec g c.seek { headH g c.seek with old := true } hl hs hw) rfl ?_
        show ARet _ _ _
        exact ret_d rfl ⟨rfl, rfl⟩
      · rw [if_neg hf]
        show ABr (fateH g c c.seek == 2) _ _
        rw [show (fateH g c c.seek == 2) = false by simpa using hf]
        show ABr _ _ _
        refine ⟨fun h => absurd h (by decide), fun _ => ?_⟩
        show ARet _ _ _
        exact ret_d rfl ⟨rfl, rfl⟩
    · rw [if_neg (by rw [hmet]; decide)]
      show ACall _ _ _ _ _ _
      refine call_ret (rNext5_spec g.pages c.seek) rfl ?_
      show ABr (!nextB g.pages c.seek) _ _
      cases hn : nextB g.pages c.seek with
      | true =>
        rw [if_pos rfl]
        show ABr _ _ _
        refine ⟨fun h => absurd h (by decide), fun _ => ?_⟩
        have fs := rFate18_spec g c (nextS g.pages c.seek) hl hw
        unfold cellS
        rcases fateH_cases g c (nextS g.pages c.seek) with h | ⟨h, _⟩ | ⟨h, _⟩
        · rw [h] at fs ⊢
          show ACall _ _ _ _ _ _
          refine call_ret (fs) rfl ?_
          show ABr _ _ _
          refine ⟨fun h => absurd h (by decide), fun _ => ?_⟩
          show ABr _ _ _
          refine ⟨fun h => absurd h (by decide), fun _ => ?_⟩
          show ARet _ _ _
          exact ret_d rfl ⟨rfl, rfl⟩
        · rw [h] at fs ⊢
          show ACall _ _ _ _ _ _
          refine call_ret (fs) rfl ?_
          show ABr _ _ _
          refine ⟨fun _ => ?_, fun h => absurd h (by decide)⟩
          show ACall _ _ _ _ _ _
          refine call_ret (rFree9_spec g (nextS g.pages c.seek) hl hs hw) rfl ?_
          show ABr _ _ _
          refine ⟨fun h => absurd h (by decide), fun _ => ?_⟩
          show ARet _ _ _
          exact ret_d rfl ⟨rfl, rfl⟩
        · rw [h] at fs ⊢
          show ACall _ _ _ _ _ _
          refine call_ret (fs) rfl ?_
          show ABr _ _ _
          refine ⟨fun h => absurd h (by decide), fun _ => ?_⟩
          show ABr _ _ _
          refine ⟨fun _ => ?_, fun h => absurd h (by decide)⟩
          show ACall _ _ _ _ _ _
          refine call_ret (rDirty_spec g (nextS g.pages c.seek) hl hs hw) rfl ?_
          show ARet _ _ _
          exact ret_d rfl ⟨rfl, rfl⟩
      | false =>
        rw [if_neg (by decide)]
        show ABr _ _ _
        refine ⟨fun _ => ?_, fun h => absurd h (by decide)⟩
        show ARet _ _ _
        exact ⟨[], [], [g.tv, (⟨0, c.epoch, c.major, [], false, 0, 0, 0, 0, false⟩ : Col).tv], .cons _ _ _ _ (.agg _ _ (LeL_refl rfl)) (.cons _ _ _ _ (.agg _ _ (.cons _ _ _ _ (.d _) (.cons _ _ _ _ (.d _) (.cons _ _ _ _ (.d _) (.cons _ _ _ _ (.nilsl .int) (.cons _ _ _ _ (.d _) (.cons _ _ _ _ (.d _) (.cons _ _ _ _ (.d _) (.cons _ _ _ _ (.d _) (.cons _ _ _ _ (.d _) (.cons _ _ _ _ (.bo_eq hmet) .nil))))))))))) .nil), .nil, rfl, rfl, rfl⟩
  · rw [if_neg hm]
    show ABr (bif !mayH g [] then true else c.phase != 6) _ _
    rw [show (bif !mayH g [] then true else c.phase != 6) = true by
      cases hq : mayH g [] with
      | false => rfl
      | true => simpa using fun k => hm ⟨hq, k⟩]
    show ABr _ _ _
    refine ⟨fun _ => ?_, fun h => absurd h (by decide)⟩
    show ARet _ _ _
    exact ret_d rfl ⟨rfl, rfl⟩

theorem SweepSteps_spec (g : Hp) (hw : ∀ x ∈ g.w, I64 x) (c : Col) (a : Int) : Spec X 3 [] [g.tv, c.tv, .int a] (Ret [] (.bo true)) := by
  refine spec_go X_ok Tryz.f3 (by kernel_rfl) (by kernel_rfl) (by kernel_rfl) fun hb hH => ⟨rfl, ?_⟩
  show ACall _ _ _ _ _ _
  refine call_ret (awake18_spec) rfl ?_
  show ACall _ _ _ _ _ _
  refine call_ret (few18_spec g c) rfl ?_
  cases hf : few11 g c with
  | false =>
    show ABr _ _ _
    refine ⟨fun _ => ?_, fun h => absurd h (by decide)⟩
    show ARet _ _ _
    exact ret_d rfl ⟨rfl, rfl⟩
  | true =>
    obtain ⟨f1, f2, f3, f4, f5⟩ := few18_of hf
    show ABr _ _ _
    refine ⟨fun h => absurd h (by decide), fun _ => ?_⟩
    show ACall _ _ _ _ _ _
    refine call_ret (rOwn7f_spec g f3) rfl ?_
    show ACall _ _ _ _ _ _
    refine call_ret (swStep_spec g c f2 f3 f5) rfl ?_
    show ACall _ _ _ _ _ _
    refine call_ret (rStep18_spec g c f2 f3 hw f5) rfl ?_
    show ACall _ _ _ _ _ _
    refine call_ret (hSame_spec (sweepS g c).1 (sweepS g c).1) rfl ?_
    rw [decide_eq_true (show (sweepS g c).1 = (sweepS g c).1 from rfl)]
    show ACall _ _ _ _ _ _
    refine call_ret (cSame_spec (sweepS g c).2 (sweepS g c).2) rfl ?_
    rw [decide_eq_true (show (sweepS g c).2 = (sweepS g c).2 from rfl)]
    show ABr _ _ _
    refine ⟨fun _ => ?_, fun h => absurd h (by decide)⟩
    show ABr _ _ _
    refine ⟨fun _ => ?_, fun h => absurd h (by decide)⟩
    show ADCall _ _ _ _ _ _
    refine .mk _ _ (Fate_spec g c a f2) rfl ?_
    show ADCall _ _ _ _ _ _
    refine .mk _ _ (rFate18_spec g c a f2 hw) rfl ?_
    show ABr (fateH g c a == fateH g c a) _ _
    refine ⟨fun _ => ?_, fun k => absurd k (by simp)⟩
    show ADCall _ _ _ _ _ _
    refine .mk _ _ (hSame_spec g g) rfl ?_
    show ARet _ _ _
    refine ret_bo (x := decide (g = g)) (decide_eq_true rfl) ⟨rfl, rfl⟩
end Go.Abs
