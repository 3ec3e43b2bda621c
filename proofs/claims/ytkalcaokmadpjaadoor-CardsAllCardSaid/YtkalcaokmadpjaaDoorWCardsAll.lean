/- Walks: all objects begin on just one card each; by the next one just the old ones of a card are told. -/
import Derived.Test.YtkalcaokmadpjaaDoorWCards2
import Derived.Test.YtkalcaokmadpjaaDoorWBegins
set_option linter.all false
set_option linter.unusedVariables false
set_option linter.unusedSimpArgs false
namespace Go.Abs
open Go.Proofs Go.Proofs.YtkalcaokmadpjaaDoor
set_option maxRecDepth 8000

theorem mem_onTo {g : Hp} {c : Int} {n : Nat} {a : Int} : a ∈ onTo g c n ↔ a ∈ usedH g ∧ 16 + c * 8 ≤ a ∧ a < 16 + c * 8 + (n : Int) := by
  unfold onTo
  rw [List.mem_filter]
  constructor
  · rintro ⟨h1, h2⟩
    obtain ⟨i, hi, rfl⟩ := List.mem_map.1 h1
    rw [List.mem_range] at hi
    exact ⟨List.contains_iff_mem.1 h2, by omega, by omega⟩
  · rintro ⟨h1, h2, h3⟩
    exact ⟨List.mem_map.2 ⟨(a - (16 + c * 8)).toNat, List.mem_range.2 (by omega), by omega⟩, List.contains_iff_mem.2 h1⟩

theorem onTo_sorted (g : Hp) (c : Int) (n : Nat) : (onTo g c n).Pairwise (· < ·) := by
  unfold onTo
  refine List.Pairwise.filter _ ?_
  rw [List.pairwise_map]
  exact List.Pairwise.imp (fun h => by omega) List.pairwise_lt_range

theorem onH_sorted (g : Hp) (c : Int) : (onH g c).Pairwise (· < ·) := by
  unfold onH
  cases decide (0 ≤ c ∧ c < (g.cards.length : Int))
  · exact List.Pairwise.nil
  · exact onTo_sorted g c 8

/-- The objects of the first cards, one behind the other. -/
def onAll (g : Hp) (n : Nat) : List Int := (List.range n).flatMap fun k : Nat => onH g (k : Int)

theorem onAll_succ (g : Hp) (n : Nat) : onAll g (n + 1) = onAll g n ++ onH g (n : Int) := by
  unfold onAll
  rw [List.range_succ, List.flatMap_append]
  simp

theorem onH_in {g : Hp} {k : Nat} (h : k < g.cards.length) : onH g (k : Int) = onTo g (k : Int) 8 := by
  unfold onH
  rw [decide_eq_true (by omega)]
  rfl

theorem mem_onAll {g : Hp} : ∀ {n : Nat}, n ≤ g.cards.length → ∀ {a : Int}, a ∈ onAll g n ↔ a ∈ usedH g ∧ 16 ≤ a ∧ a < 16 + 8 * (n : Int)
  | 0, _, a => by
    show a ∈ ([] : List Int) ↔ _
    constructor
    · intro h; cases h
    · rintro ⟨_, h2, h3⟩; omega
  | n + 1, h, a => by
    rw [onAll_succ, List.mem_append, mem_onAll (n := n) (by omega), onH_in (by omega), mem_onTo]
    constructor
    · rintro (⟨h1, h2, h3⟩ | ⟨h1, h2, h3⟩)
      · exact ⟨h1, h2, by omega⟩
      · exact ⟨h1, by omega, by omega⟩
    · rintro ⟨h1, h2, h3⟩
      by_cases hx : a < 16 + 8 * (n : Int)
      · exact .inl ⟨h1, h2, hx⟩
      · exact .inr ⟨h1, by omega, by omega⟩

theorem onAll_sorted {g : Hp} : ∀ {n : Nat}, n ≤ g.cards.length → (onAll g n).Pairwise (· < ·)
  | 0, _ => List.Pairwise.nil
  | n + 1, h => by
    rw [onAll_succ, List.pairwise_append]
    refine ⟨onAll_sorted (by omega), onH_sorted g _, fun x hx y hy => ?_⟩
    have h1 := ((mem_onAll (by omega)).1 hx).2.2
    rw [onH_in (by omega)] at hy
    have h2 := (mem_onTo.1 hy).2.1
    omega

theorem onAll_used {g : Hp} (hm : mayH g [] = true) : onAll g g.cards.length = usedH g := by
  obtain ⟨_, _, h3, h4, _⟩ := shapedH_of (mayH_shaped hm)
  refine sorted_same (onAll_sorted (Nat.le_refl _)) (usedH_sorted g) fun x => ?_
  rw [mem_onAll (Nat.le_refl _)]
  constructor
  · exact fun h => h.1
  · intro h
    have := (head_fits (mem_usedH.1 h)).2.2.2
    exact ⟨h, this.1, by have := this.2; omega⟩

theorem onH_len (g : Hp) (c : Int) : (onH g c).length ≤ 8 := by
  unfold onH
  cases decide (0 ≤ c ∧ c < (g.cards.length : Int))
  · exact Nat.zero_le _
  · exact onTo_len g c 8

theorem onAll_len (g : Hp) : ∀ n : Nat, (onAll g n).length ≤ 8 * n
  | 0 => Nat.le_refl _
  | n + 1 => by
    rw [onAll_succ, List.length_append]
    have := onAll_len g n
    have := onH_len g (n : Int)
    omega

/-- The old objects of a card. -/
def oldH (g : Hp) (c : Int) : List Int := (onH g c).filter fun b => (headH g b).old

theorem next_old (g : Hp) (c a : Int) : nextO g c a = (oldH g c).find? fun b => decide (a < b) := by
  unfold nextO oldH
  rw [List.find?_filter]
  congr 1
  funext b
  rw [Bool.and_comm, Bool.decide_and, Bool.decide_eq_true, Bool.decide_eq_true]

theorem find_next {l : List Int} (hs : l.Pairwise (· < ·)) : ∀ i, i < l.length → (l.find? fun b => decide (at0 l i < b)) = l[i + 1]? := by
  intro i hi
  have hd : l = l.take (i + 1) ++ l.drop (i + 1) := (List.take_append_drop _ _).symm
  have h1 : (l.take (i + 1)).find? (fun b => decide (at0 l i < b)) = none := by
    rw [List.find?_eq_none]
    intro x hx
    obtain ⟨j, hj, e⟩ := List.mem_iff_getElem.1 hx
    rw [List.getElem_take] at e
    have hj' : j < i + 1 := by simp at hj; omega
    have : x ≤ at0 l i := by
      unfold at0
      rw [List.getD_eq_getElem?_getD, List.getElem?_eq_getElem hi, ← e]
      by_cases hji : j = i
      · subst hji; exact Int.le_refl _
      · exact Int.le_of_lt (List.pairwise_iff_getElem.1 hs j i (by omega) hi (by omega))
    simpa using this
  rw [show (l.find? fun b => decide (at0 l i < b)) = (l.take (i + 1) ++ l.drop (i + 1)).find? (fun b => decide (at0 l i < b)) from by rw [← hd], List.find?_append, h1, Option.none_or]
  cases hn : l[i + 1]? with
  | none =>
    have : l.drop (i + 1) = [] := List.drop_eq_nil_of_le (by have := List.getElem?_eq_none_iff.1 hn; omega)
    rw [this]
    rfl
  | some y =>
    obtain ⟨hlt, e⟩ := List.getElem?_eq_some_iff.1 hn
    rw [List.drop_eq_getElem_cons hlt, List.find?_cons]
    have : at0 l i < l[i + 1] := by
      unfold at0
      rw [List.getD_eq_getElem?_getD, List.getElem?_eq_getElem hi]
      exact List.pairwise_iff_getElem.1 hs i (i + 1) hi hlt (by omega)
    rw [decide_eq_true this, e]

theorem find_first {l : List Int} (hp : ∀ x ∈ l, 0 < x) : (l.find? fun b => decide (0 < b)) = l[0]? := by
  cases l with
  | nil => rfl
  | cons x r =>
    rw [List.find?_cons, decide_eq_true (hp x (List.mem_cons_self ..))]
    rfl

theorem oldH_sorted (g : Hp) (c : Int) : (oldH g c).Pairwise (· < ·) := (onH_sorted g c).filter _
theorem oldH_pos {g : Hp} {c : Int} {x : Int} (h : x ∈ oldH g c) : 0 < x := by
  have h1 := (List.mem_filter.1 h).1
  unfold onH at h1
  cases hd : decide (0 ≤ c ∧ c < (g.cards.length : Int)) with
  | false => rw [hd] at h1; cases h1
  | true =>
    rw [hd] at h1
    have := (mem_onTo.1 h1).2.1
    have := of_decide_eq_true hd
    omega

theorem CardsAll_spec (g : Hp) (c : Int) : Spec X 14 [] [g.tv, .int c] (Ret [] (.bo true)) := by
  refine spec_go X_ok Tryd.f14 (by kernel_rfl) (by kernel_rfl) (by kernel_rfl) fun hb hH => ⟨rfl, ?_⟩
  show ACall _ _ _ _ _ _
  refine call_ret (awake10_spec) rfl ?_
  show ACall _ _ _ _ _ _
  refine call_ret (Few_spec g) rfl ?_
  cases hf : fewH g with
  | false =>
    show AIf _ _ _
    refine ⟨fun h => absurd h.1 (by decide), fun _ => ?_⟩
    show AOb _ _
    refine ⟨rfl, ?_⟩
    show ABr _ _ _
    refine ⟨fun _ => ?_, fun h => absurd h (by decide)⟩
    show ARet _ _ _
    exact ret_d rfl ⟨rfl, rfl⟩
  | true =>
    have hl := few_light hf
    have hlc : g.cards.length ≤ 20 := (of_decide_eq_true hf).2.2.1
    show AIf _ _ _
    refine ⟨fun _ => ?_, fun h => absurd ⟨rfl, trivial⟩ h⟩
    show ACall _ _ _ _ _ _
    refine call_ret (hHMay0_spec g hl) rfl ?_
    cases hm : mayH g [] with
    | false =>
      show ABr _ _ _
      refine ⟨fun _ => ?_, fun h => absurd h (by decide)⟩
      show ARet _ _ _
      exact ret_d rfl ⟨rfl, rfl⟩
    | true =>
      show ABr _ _ _
      refine ⟨fun h => absurd h (by decide), fun _ => ?_⟩
      obtain ⟨U, hU⟩ : ∃ U, U = usedH g := ⟨_, rfl⟩
      have hUa : onAll g g.cards.length = U := (onAll_used hm).trans hU.symm
      obtain ⟨W, hW⟩ : ∃ W, W = oldH g c := ⟨_, rfl⟩
      obtain ⟨L, hL⟩ : ∃ L, L = onH g c := ⟨_, rfl⟩
      have hLl : L.length ≤ 8 := hL ▸ onH_len g c
      have hWl : W.length ≤ 8 := by rw [hW]; exact Nat.le_trans (List.length_filter_le _ _) (onH_len g c)
      have hWL : W = L.filter fun b => (headH g b).old := by rw [hW, hL]; rfl
      have n0 : nextO g c 0 = W[0]? := by rw [next_old, ← hW]; exact find_first fun x hx => oldH_pos (hW ▸ hx)
      have ns : ∀ i, i < W.length → nextO g c (at0 W i) = W[i + 1]? := fun i hi => by rw [next_old, ← hW]; exact find_next (hW ▸ oldH_sorted g c) i hi
      have hg : ∀ i : Nat, (W[i]?).getD 0 = at0 W i := fun i => by unfold at0; rw [List.getD_eq_getElem?_getD]
      have hi : ∀ i : Nat, (W[i]?).isSome = decide (i < W.length) := fun i => by
        by_cases h : i < W.length
        · rw [List.getElem?_eq_getElem h, decide_eq_true h]; rfl
        · rw [List.getElem?_eq_none (by omega), decide_eq_false h]; rfl
      show ∃ n, _
      refine ⟨0, ALoop.inv (ι := {i : Nat // i ≤ g.cards.length}) (fun i => ⟨[(1, .int c), (2, .c (.d (.rp g.enc))), (7, .c (.own 1)), (8, .int i.1)], [(1, .data .int (onAll g i.1))], 64⟩) (fun i => g.cards.length - i.1) ⟨0, Nat.zero_le _⟩ ?_ ?_⟩
      · exact ⟨[], .cons _ _ _ .same (.cons _ _ _ (.c _ _ (.frz _ _ rfl)) (.cons _ _ _ (.c _ _ (.nilown 1 .int rfl rfl)) (.cons _ _ _ .same .nil))), .new 1 .int _ rfl .nil, rfl⟩
      · rintro ⟨i, hi1⟩
        show ABr (decide ((i : Int) < (g.cards.length : Int))) _ _
        refine ⟨fun h => ?_, fun h => ?_⟩
        · have hlt : i < g.cards.length := by simpa using h
          have wi : IntKind.i64.wrap ((i : Int) + 1) = ((i + 1 : Nat) : Int) := wrapP (i := i) (by unfold maxN; omega)
          have k1 := onAll_len g i
          have k2 := onH_len g (i : Int)
          show ACall _ _ _ _ _ _
          refine call_ret (On_spec g (i : Int) hl) rfl ?_
          show AOb ((onAll g i).length + (onH g (i : Int)).length ≤ most) _
          refine ⟨by unfold most; omega, ?_⟩
          show ARound _ _ _ _
          exact ⟨⟨i + 1, hlt⟩, by show g.cards.length - (i + 1) < g.cards.length - i; omega, [(_, 1)], .cons _ _ _ .same (.cons _ _ _ .same (.cons _ _ _ (.c _ _ (.own1 _ _)) (.cons _ _ _ (.int_eq wi) .nil))), .old 1 _ _ _ _ rfl rfl (.data_eq (onAll_succ g i).symm) .nil, rfl⟩
        · have hge : i = g.cards.length := by simp at h; omega
          subst hge
          show ACall _ _ _ _ _ _
          refine call_ret (cNext_spec g c 0 hl) rfl ?_
          rw [n0, hg 0, hi 0]
          show ∃ n, _
          refine ⟨0, ALoop.inv (ι := {i : Nat // i ≤ W.length}) (fun i => ⟨[(1, .int c), (2, .c (.d (.rp g.enc))), (7, .c (.d (.sl .int U))), (9, .c (.own 1)), (10, .int (at0 W i.1)), (11, .bo (decide (i.1 < W.length))), (12, .int i.1)], [(1, .data .int (W.take i.1))], 64⟩) (fun i => W.length - i.1) ⟨0, Nat.zero_le _⟩ ?_ ?_⟩
          · exact ⟨[], .cons _ _ _ .same (.cons _ _ _ .same (.cons _ _ _ (.frz (k := .int) rfl hUa) (.cons _ _ _ (.c _ _ (.nilown 1 .int rfl rfl)) (.cons _ _ _ .same (.cons _ _ _ .same (.cons _ _ _ .same .nil)))))), .new 1 .int _ rfl .nil, rfl⟩
          · rintro ⟨i, hi1⟩
            have wi : IntKind.i64.wrap ((i : Int) + 1) = ((i + 1 : Nat) : Int) := wrapP (i := i) (by unfold maxN; omega)
            show ABr (bif decide (i < W.length) then decide ((i : Int) < 20) else false) _ _
            refine ⟨fun h => ?_, fun h => ?_⟩
            · have hlt : i < W.length := by
                by_cases h1 : i < W.length
                · exact h1
                · rw [decide_eq_false h1] at h; exact absurd h (by simp)
              show AOb ((W.take i).length + 1 ≤ most) _
              refine ⟨by rw [List.length_take]; unfold most; omega, ?_⟩
              show ACall _ _ _ _ _ _
              refine call_ret (cNext_spec g c (at0 W i) hl) rfl ?_
              rw [ns i hlt, hg (i + 1), hi (i + 1)]
              show ARound _ _ _ _
              exact ⟨⟨i + 1, hlt⟩, by show W.length - (i + 1) < W.length - i; omega, [(_, 1)], .cons _ _ _ .same (.cons _ _ _ .same (.cons _ _ _ .same (.cons _ _ _ (.c _ _ (.own1 _ _)) (.cons _ _ _ .same (.cons _ _ _ .same (.cons _ _ _ (.int_eq wi) .nil)))))), .old 1 _ _ _ _ rfl rfl (.data_eq (take_at0 hlt).symm) .nil, rfl⟩
            · have hge : i = W.length := by
                by_cases h1 : i < W.length
                · rw [decide_eq_true h1, decide_eq_true (show (i : Int) < 20 by omega)] at h; exact absurd h (by decide)
                · omega
              subst hge
              show ACall _ _ _ _ _ _
              refine call_ret (On_spec g c hl) rfl ?_
              rw [← hL]
              show ∃ n, _
              refine ⟨0, ALoop.inv (ι := {i : Nat // i ≤ L.length}) (fun i => ⟨[(2, .c (.d (.rp g.enc))), (7, .c (.d (.sl .int U))), (9, .c (.d (.sl .int W))), (11, .bo false), (13, .c (.own 1)), (14, .c (.d (.sl .int L))), (15, .int i.1)], [(1, .data .int ((L.take i.1).filter fun b => (headH g b).old))], 64⟩) (fun i => L.length - i.1) ⟨0, Nat.zero_le _⟩ ?_ ?_⟩
              · exact ⟨[], .cons _ _ _ .same (.cons _ _ _ .same (.cons _ _ _ (.frz (k := .int) rfl List.take_length) (.cons _ _ _ (.bo_eq (by simp)) (.cons _ _ _ (.c _ _ (.nilown 1 .int rfl rfl)) (.cons _ _ _ .same (.cons _ _ _ .same .nil)))))), .new 1 .int _ rfl .nil, rfl⟩
              · rintro ⟨i, hi1⟩
                have wi : IntKind.i64.wrap ((i : Int) + 1) = ((i + 1 : Nat) : Int) := wrapP (i := i) (by unfold maxN; omega)
                show ABr (decide ((i : Int) < (L.length : Int))) _ _
                refine ⟨fun h => ?_, fun h => ?_⟩
                · have hlt : i < L.length := by simpa using h
                  have hs : (L.take (i + 1)).filter (fun b => (headH g b).old) = (L.take i).filter (fun b => (headH g b).old) ++ (bif (headH g (L.getD i default)).old then [L.getD i default] else []) := by
                    rw [take_at0 hlt, List.filter_append, List.filter_cons, List.filter_nil]
                    show _ ++ (if (headH g (at0 L i)).old = true then [at0 L i] else []) = _ ++ (bif (headH g (at0 L i)).old then [at0 L i] else [])
                    cases (headH g (at0 L i)).old <;> rfl
                  have hlen : ((L.take i).filter fun b => (headH g b).old).length ≤ 8 := by
                    refine Nat.le_trans (List.length_filter_le _ _) ?_
                    rw [List.length_take]; omega
                  show AOb ((0 : Int) ≤ (i : Int) ∧ (i : Int) < (L.length : Int)) _
                  refine ⟨by omega, ?_⟩
                  show ADCall _ _ _ _ _ _
                  refine .mk _ _ (hHead_spec g (L.getD i default) hl) rfl ?_
                  show ABr (headH g (L.getD i default)).old _ _
                  refine ⟨fun h => ?_, fun h => ?_⟩
                  · rw [h] at hs
                    show AOb ((0 : Int) ≤ (i : Int) ∧ (i : Int) < (L.length : Int)) _
                    refine ⟨by omega, ?_⟩
                    show AOb (((L.take i).filter fun b => (headH g b).old).length + 1 ≤ most) _
                    refine ⟨by unfold most; omega, ?_⟩
                    show ARound _ _ _ _
                    exact ⟨⟨i + 1, hlt⟩, by show L.length - (i + 1) < L.length - i; omega, [(_, 1)], .cons _ _ _ .same (.cons _ _ _ .same (.cons _ _ _ .same (.cons _ _ _ .same (.cons _ _ _ (.c _ _ (.own1 _ _)) (.cons _ _ _ .same (.cons _ _ _ (.int_eq wi) .nil)))))), .old 1 _ _ _ _ rfl rfl (.data_eq hs.symm) .nil, rfl⟩
                  · rw [h] at hs
                    show ARound _ _ _ _
                    exact ⟨⟨i + 1, hlt⟩, by show L.length - (i + 1) < L.length - i; omega, [(1, 1)], .cons _ _ _ .same (.cons _ _ _ .same (.cons _ _ _ .same (.cons _ _ _ .same (.cons _ _ _ (.c _ _ (.own1 _ _)) (.cons _ _ _ .same (.cons _ _ _ (.int_eq wi) .nil)))))), .old 1 1 _ _ _ rfl rfl (.data_eq ((List.append_nil _).symm.trans hs.symm)) .nil, rfl⟩
                · have hge : i = L.length := by simp at h; omega
                  subst hge
                  show ACall _ _ _ _ _ _
                  refine call_ret (hUsed_spec g hl) rfl ?_
                  rw [← hU]
                  show ACall _ _ _ _ _ _
                  refine call_ret (Ints_spec U U) rfl ?_
                  rw [decide_eq_true rfl]
                  have hff : (L.take L.length).filter (fun b => (headH g b).old) = W := by rw [List.take_length, hWL]
                  show ACall _ _ _ _ _ _
                  refine call_ret (Ints_spec W ((L.take L.length).filter fun b => (headH g b).old)) rfl ?_
                  rw [decide_eq_true hff.symm]
                  show ARet _ _ _
                  exact ret_d rfl ⟨rfl, rfl⟩
end Go.Abs
