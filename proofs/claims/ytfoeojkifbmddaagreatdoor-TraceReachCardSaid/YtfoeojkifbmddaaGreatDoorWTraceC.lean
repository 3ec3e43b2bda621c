/- Walks: a step changes nothing but marks. -/
import Derived.Test.YtfoeojkifbmddaaGreatDoorWTraceB
set_option linter.all false
set_option linter.unusedVariables false
set_option linter.unusedSimpArgs false
namespace Go.Abs
open Go.Proofs Go.Proofs.YtfoeojkifbmddaaGreatDoor
set_option maxRecDepth 8000

/-- The words with those of the first objects as they were. -/
def mendW (g : Hp) (w : List Int) (U : List Int) (i : Nat) : List Int := (U.take i).foldl (fun w u => w.set (u - 16).toNat (wordAt g u)) w

theorem mend_step {g : Hp} {w U : List Int} {i : Nat} (h : i < U.length) : mendW g w U (i + 1) = (mendW g w U i).set (U.getD i default - 16).toNat (wordAt g (U.getD i default)) := by
  unfold mendW
  rw [take_at0 h, List.foldl_append]
  rfl
theorem mend_len (g : Hp) (w U : List Int) (i : Nat) : (mendW g w U i).length = w.length := by
  unfold mendW
  generalize U.take i = l
  induction l generalizing w with
  | nil => rfl
  | cons x r ih =>
    rw [List.foldl_cons, ih, List.length_set]

theorem mend_get (g : Hp) (U : List Int) : ∀ (w : List Int) (j : Nat), j < w.length → (∀ u ∈ U, 16 ≤ u) →
    (U.foldl (fun w u => w.set (u - 16).toNat (wordAt g u)) w).getD j 0 = if 16 + (j : Int) ∈ U then g.w.getD j 0 else w.getD j 0 := by
  induction U with
  | nil => intro w j _ _; simp
  | cons x r ih =>
    intro w j hj hu
    have hx := hu x List.mem_cons_self
    rw [List.foldl_cons, ih _ j (by rw [List.length_set]; exact hj) fun u h => hu u (List.mem_cons_of_mem _ h)]
    by_cases hr : 16 + (j : Int) ∈ r
    · rw [if_pos hr, if_pos (List.mem_cons_of_mem _ hr)]
    · rw [if_neg hr]
      by_cases hxj : x = 16 + (j : Int)
      · rw [if_pos (by rw [hxj]; exact List.mem_cons_self)]
        have e : (x - 16).toNat = j := by omega
        rw [e, List.getD_eq_getElem?_getD, List.getElem?_set_self hj]
        show wordAt g x = _
        unfold wordAt at0
        rw [e]
      · rw [if_neg (fun h => by rcases List.mem_cons.1 h with h | h; exact hxj h.symm; exact hr h)]
        rw [List.getD_eq_getElem?_getD, List.getElem?_set_ne (by omega), List.getD_eq_getElem?_getD]

theorem mend_all {g k : Hp} (h : Marks g k) : mendW g k.w (usedH g) (usedH g).length = g.w := by
  have hlen := mend_len g k.w (usedH g) (usedH g).length
  rw [h.len] at hlen
  apply List.ext_getElem hlen
  intro j h1 h2
  have hj : j < k.w.length := by rw [h.len]; exact h2
  have hu : ∀ u ∈ usedH g, 16 ≤ u := fun u hu => (head_fits (mem_usedH.1 hu)).2.2.2.1
  have e := mend_get g (usedH g) k.w j hj hu
  have e1 : (mendW g k.w (usedH g) (usedH g).length)[j] = (mendW g k.w (usedH g) (usedH g).length).getD j 0 := by rw [List.getD_eq_getElem?_getD, List.getElem?_eq_getElem h1]; rfl
  have e2 : g.w[j] = g.w.getD j 0 := by rw [List.getD_eq_getElem?_getD, List.getElem?_eq_getElem h2]; rfl
  rw [e1, e2]
  unfold mendW
  rw [List.take_length, e]
  by_cases hm : 16 + (j : Int) ∈ usedH g
  · rw [if_pos hm]
  · rw [if_neg hm]
    apply Classical.byContradiction
    intro hne
    exact hm (h.word j hne)

set_option maxHeartbeats 2000000 in
theorem TraceKeeps_spec (g : Hp) (hw : ∀ x ∈ g.w, I64 x) (c : Col) : Spec X 5 [] [g.tv, c.tv] (Ret [] (.bo true)) := by
  refine spec_go X_ok Tryz.f5 (by kernel_rfl) (by kernel_rfl) (by kernel_rfl) fun hb hH => ⟨rfl, ?_⟩
  show ACall _ _ _ _ _ _
  refine call_ret (awake16_spec) rfl ?_
  show ACall _ _ _ _ _ _
  refine call_ret (few16_spec g c) rfl ?_
  cases hf : few11 g c with
  | false =>
    show AIf _ _ _
    refine ⟨fun h => absurd h.1 (by simp), fun _ => ?_⟩
    show AOb _ _
    refine ⟨by simp, ?_⟩
    show ABr _ _ _
    refine ⟨fun _ => ?_, fun h => absurd h (by simp)⟩
    show ARet _ _ _
    exact ret_d rfl ⟨rfl, rfl⟩
  | true =>
    obtain ⟨f1, f2, f3, f4, f5⟩ := few16_of hf
    show AIf _ _ _
    refine ⟨fun _ => ?_, fun h => absurd ⟨(by rfl), trivial⟩ h⟩
    show ACall _ _ _ _ _ _
    refine call_ret (hHMay0_spec g f2) rfl ?_
    cases hm : mayH g [] with
    | false =>
      show ABr _ _ _
      refine ⟨fun _ => ?_, fun h => absurd h (by simp)⟩
      show ARet _ _ _
      exact ret_d rfl ⟨rfl, rfl⟩
    | true =>
      show ABr _ _ _
      refine ⟨fun h => absurd h (by simp), fun _ => ?_⟩
      have hs := trace_step g c
      have hM := hs.marks
      have hR := hs.rises
      have kl := hM.light f2
      have ks := hM.small f3
      have kw := hs.w64 hw
      show ACall _ _ _ _ _ _
      refine call_ret (tStep_spec g c f2 f3 f5) rfl ?_
      generalize hk : (traceS g c).1 = k at *
      generalize hd : (traceS g c).2 = d at *
      show ABr (!decide ((k.w.length : Int) = (g.w.length : Int))) _ _
      rw [hM.len]
      show ABr _ _ _
      refine ⟨fun h => absurd h (by simp), fun _ => ?_⟩
      show ACall _ _ _ _ _ _
      refine .mk _ (rUsed7_spec g f2 hw) fun H r ⟨eH, er⟩ _ _ => ⟨.inl rfl, ?_⟩
      subst eH er
      obtain ⟨U, hU⟩ : ∃ U, U = usedH g := ⟨_, rfl⟩
      rw [← hU]
      have hUl : U.length ≤ 512 := by rw [hU]; exact used_len g
      show ACall _ _ _ _ _ _
      refine .mk _ (rOwn7_spec k ks) fun H r ⟨eH, er⟩ _ _ => ⟨.inl rfl, ?_⟩
      subst eH er
      show ∃ n, _
      refine ⟨0, ALoop.inv (ι := {i : Nat // i ≤ U.length}) (fun q => ⟨[(2, .c (.d (.rp (g.enc)))), (3, .c (.d (.rp (c.enc)))), (7, .c (.d (.rp (k.enc)))), (8, .c (.d (.rp (d.enc)))), (9, .c (.d (.sl .int (U)))), (10, .c (.ptr 0 0 0)), (11, .int (q.1))], [(0, .vars [.own 1, .d (.sl .page k.pages), .d (.sl .int k.free.l0), .d (.sl .int k.free.l1), .d (.sl .int k.free.l2), .d (.sl .bool k.cards)]), (1, .data .int (mendW g k.w U q.1))], 96⟩) (fun q => U.length - q.1) ⟨0, Nat.zero_le _⟩ ?_ ?_⟩
      · exact ⟨[(1376, 0), (1344, 1)], (by repeat' first | exact .nil | refine .cons _ _ _ ?_ ?_ | exact .same | exact .c _ _ (.own _ _ rfl) | exact .c _ _ (.ptr _ _ _ _ rfl) | exact .c _ _ (.frz _ _ rfl) | exact .any _), (by exact .old 0 1376 _ _ _ rfl rfl (.vars _ _ (by repeat' first | exact .nil | refine .cons _ _ _ _ ?_ ?_ | exact .own _ _ rfl | exact .d _ | exact .frz _ _ rfl)) (.old 1 1344 _ _ _ rfl rfl (.data_eq rfl) .nil)), (by rfl)⟩
      rintro ⟨i, hi⟩
      show ABr (decide ((i : Int) < (U.length : Int))) _ _
      refine ⟨fun h => ?_, fun h => ?_⟩
      · have hlt : i < U.length := by simpa using h
        have wi : IntKind.i64.wrap ((i : Int) + 1) = ((i + 1 : Nat) : Int) := wrapP (i := i) (by unfold maxN; omega)
        have hmem : U.getD i default ∈ U := by
          rw [List.getD_eq_getElem?_getD, List.getElem?_eq_getElem hlt]
          exact List.getElem_mem hlt
        have h0 : headE g (U.getD i default) = 0 := mem_usedH.1 (hU ▸ hmem)
        have hst := mend_step (g := g) (w := k.w) hlt
        obtain ⟨u, hu⟩ : ∃ u, u = U.getD i default := ⟨_, rfl⟩
        rw [← hu] at h0 hst
        have had := (head_fits h0).2.2.2
        obtain ⟨_, _, hlen, _, _, h64⟩ := shapedH_of (mayH_shaped hm)
        have w1 : IntKind.i64.wrap (u - 16) = u - 16 := wrap64 (by have := had.1; omega) (by have := had.2; omega)
        show AOb ((0 : Int) ≤ (i : Int) ∧ (i : Int) < (U.length : Int)) _
        refine ⟨by omega, ?_⟩
        show ADCall _ _ _ _ _ _
        refine .mk _ _ (rHead7_spec g (U.getD i default) f2 hw) rfl ?_
        show AOb ((0 : Int) ≤ (i : Int) ∧ (i : Int) < (U.length : Int)) _
        refine ⟨by omega, ?_⟩
        show ADCall _ _ _ _ _ _
        refine .mk _ _ (rHead7_spec k (U.getD i default) kl kw) rfl ?_
        show AOb ((0 : Int) ≤ (i : Int) ∧ (i : Int) < (U.length : Int)) _
        refine ⟨by omega, ?_⟩
        show ADCall _ _ _ _ _ _
        refine .mk _ _ (rColour_spec g c (U.getD i default) f2 hw) rfl ?_
        show AOb ((0 : Int) ≤ (i : Int) ∧ (i : Int) < (U.length : Int)) _
        refine ⟨by omega, ?_⟩
        show ADCall _ _ _ _ _ _
        refine .mk _ _ (rColour_spec k d (U.getD i default) kl kw) rfl ?_
        have e1 : headE k (U.getD i default) = 0 := by rw [hM.headE, ← hu]; exact h0
        obtain ⟨_, e2, e3, e4⟩ := hM.head (U.getD i default)
        have e5 : ¬ atK k d (U.getD i default) < atK g c (U.getD i default) := by
          rw [hs.at]
          have := hR.le (U.getD i default)
          omega
        have e6 : (headH g (U.getD i default)).old = true → c.major = false → atK k d (U.getD i default) = atK g c (U.getD i default) := fun ho hj => by
          have z : atK g c (U.getD i default) = 0 := by
            rw [atK_yes (by rw [← hu]; exact h0)]
            unfold colour
            rw [ho, hj]
            rfl
          rw [hs.at, z]
          exact hR.out _ z
        show ABr (bif (bif (bif (bif (bif (!decide (headE k (U.getD i default) = 0)) then true else !((headH k (U.getD i default)).old == (headH g (U.getD i default)).old)) then true else !decide ((headH k (U.getD i default)).born = (headH g (U.getD i default)).born)) then true else !decide ((headH k (U.getD i default)).n = (headH g (U.getD i default)).n)) then true else decide (atK k d (U.getD i default) < atK g c (U.getD i default))) then true else (bif (bif (headH g (U.getD i default)).old then !c.major else false) then !decide (atK k d (U.getD i default) = atK g c (U.getD i default)) else false)) _ _
        refine ⟨fun h => absurd h ?_, fun _ => ?_⟩
        · rw [decide_eq_true e1, e2, decide_eq_true e3, decide_eq_true e4, decide_eq_false e5]
          cases ho : (headH g (U.getD i default)).old with
          | false => simp
          | true =>
            cases hj : c.major with
            | true => simp
            | false => rw [decide_eq_true (e6 ho hj)]; simp
        show AOb ((0 : Int) ≤ (i : Int) ∧ (i : Int) < (U.length : Int)) _
        refine ⟨by omega, ?_⟩
        show AOb ((0 : Int) ≤ (i : Int) ∧ (i : Int) < (U.length : Int)) _
        refine ⟨by omega, ?_⟩
        have ml := mend_len g k.w U i
        rw [hM.len] at ml
        have h16 := had.1
        have h17 := had.2
        show AOb ((0 : Int) ≤ IntKind.i64.wrap (U.getD i default - 16) ∧ IntKind.i64.wrap (U.getD i default - 16) < (g.w.length : Int)) _
        refine ⟨by rw [← hu, w1]; omega, ?_⟩
        show AOb ((0 : Int) ≤ IntKind.i64.wrap (U.getD i default - 16) ∧ IntKind.i64.wrap (U.getD i default - 16) < ((mendW g k.w U i).length : Int)) _
        refine ⟨by rw [← hu, w1]; omega, ?_⟩
        show AOb ((IntKind.i64.wrap (U.getD i default - 16)).toNat < (mendW g k.w U i).length) _
        refine ⟨by rw [← hu, w1]; omega, ?_⟩
        have hst2 : (mendW g k.w U i).set (IntKind.i64.wrap (U.getD i default - 16)).toNat (g.w.getD (IntKind.i64.wrap (U.getD i default - 16)).toNat default) = mendW g k.w U (i + 1) := by
          rw [← hu, w1]
          exact hst.symm
        show ARound _ _ _ _
        exact ⟨⟨i + 1, hlt⟩, (by dsimp only; omega), [(0, 0), (1, 1)], (by repeat' first | exact .nil | refine .cons _ _ _ ?_ ?_ | exact .int_eq wi | exact .same | exact .c _ _ (.own _ _ rfl) | exact .c _ _ (.ptr _ _ _ _ rfl) | exact .c _ _ (.frz _ _ rfl) | exact .any _), (by exact .old 0 0 _ _ _ rfl rfl (.vars _ _ (by repeat' first | exact .nil | refine .cons _ _ _ _ ?_ ?_ | exact .own _ _ rfl | exact .d _)) (.old 1 1 _ _ _ rfl rfl (.data_eq hst2) .nil)), (by rfl)⟩
      · have hge : i = U.length := by simp at h; omega
        have hall : (⟨mendW g k.w U i, k.pages, k.free, k.cards⟩ : Hp) = g := by
          rw [hge, hU, mend_all hM, hM.pages, hM.free, hM.cards]
        show ACall _ _ _ _ _ _
        refine call_ret (hSame_spec ⟨mendW g k.w U i, k.pages, k.free, k.cards⟩ g) rfl ?_
        obtain ⟨c1, c2, _⟩ := hs.col
        rw [decide_eq_true hall]
        show ARet _ _ _
        refine ret_bo (x := bif (bif true then decide (d.epoch = c.epoch) else false) then d.major == c.major else false) ?_ ⟨rfl, rfl⟩
        rw [decide_eq_true c1, c2]
        simp
end Go.Abs
