/- Walks: what is grey, what is known of it, and what black ones lead to. -/
import Derived.Test.YtfoeojkifbmddaaGreatDoorWTrace
import Derived.Test.YtfoeojkifbmddaaGreatDoorWRef11
import Derived.Test.YtfoeojkifbmddaaGreatDoorWSame07
set_option linter.all false
set_option linter.unusedVariables false
set_option linter.unusedSimpArgs false
namespace Go.Abs
open Go.Proofs Go.Proofs.YtfoeojkifbmddaaGreatDoor
set_option maxRecDepth 8000

theorem used_len (g : Hp) : (usedH g).length ≤ 512 := by
  unfold usedH
  cases mayH g [] with
  | false => simp
  | true => exact Nat.le_trans (List.length_filter_le _ _) (starts_len g.pages)

set_option maxHeartbeats 1000000 in
theorem rGrey11_spec (g : Hp) (c : Col) (hl : g.light) (hw : ∀ x ∈ g.w, I64 x) : Spec X 21 [] [g.tv, c.tv] (Ret [(0, .data .int (greyH g c))] (.c (.own 0))) := by
  refine spec_go X_ok Tryz.f21 (by kernel_rfl) (by kernel_rfl) (by kernel_rfl) fun hb hH => ⟨rfl, ?_⟩
  show ACall _ _ _ _ _ _
  refine .mk _ (rUsed7_spec g hl hw) fun H r ⟨eH, er⟩ _ _ => ⟨.inl rfl, ?_⟩
  subst eH er
  obtain ⟨A, hA⟩ : ∃ A, A = usedH g := ⟨_, rfl⟩
  rw [← hA]
  have hAl : A.length ≤ 512 := by rw [hA]; exact used_len g
  show ∃ n, _
  refine ⟨0, ALoop.inv (ι := {i : Nat // i ≤ A.length}) (fun q => ⟨[(2, .c (.d (.rp (g.enc)))), (3, .c (.d (.rp (c.enc)))), (5, .c (.d (.sl .int (A)))), (6, .c (.own 1)), (7, .int (q.1))], [(1, .data .int ((A.take q.1).filter fun a => decide (atK g c a = 2)))], 64⟩) (fun q => A.length - q.1) ⟨0, Nat.zero_le _⟩ ?_ ?_⟩
  · exact ⟨[], (by repeat' first | exact .nil | refine .cons _ _ _ ?_ ?_ | exact .c _ _ (.nilown 1 .int rfl rfl) | exact .same | exact .c _ _ (.own _ _ rfl) | exact .c _ _ (.ptr _ _ _ _ rfl) | exact .c _ _ (.frz _ _ rfl) | exact .any _), (by exact .new 1 .int _ rfl .nil), (by rfl)⟩
  · rintro ⟨i, hi⟩
    show ABr (decide ((i : Int) < (A.length : Int))) _ _
    refine ⟨fun h => ?_, fun h => ?_⟩
    · have hlt : i < A.length := by simpa using h
      have wi : IntKind.i64.wrap ((i : Int) + 1) = ((i + 1 : Nat) : Int) := wrapP (i := i) (by unfold maxN; omega)
      have hst : (A.take (i + 1)).filter (fun a => decide (atK g c a = 2)) = (A.take i).filter (fun a => decide (atK g c a = 2)) ++ (bif decide (atK g c (A.getD i default) = 2) then [A.getD i default] else []) := by
        rw [take_at0 hlt, List.filter_append]
        show _ ++ List.filter _ [A.getD i default] = _
        rw [List.filter_cons, List.filter_nil]
        cases decide (atK g c (A.getD i default) = 2) <;> rfl
      have hfl : ((A.take i).filter (fun a => decide (atK g c a = 2))).length ≤ 512 := by
        refine Nat.le_trans (List.length_filter_le _ _) ?_
        rw [List.length_take]; omega
      show AOb ((0 : Int) ≤ (i : Int) ∧ (i : Int) < (A.length : Int)) _
      refine ⟨by omega, ?_⟩
      show ADCall _ _ _ _ _ _
      refine .mk _ _ (rColour_spec g c (A.getD i default) hl hw) rfl ?_
      show ABr (decide (atK g c (A.getD i default) = 2)) _ _
      refine ⟨fun h => ?_, fun h => ?_⟩
      · rw [h] at hst
        show AOb ((0 : Int) ≤ (i : Int) ∧ (i : Int) < (A.length : Int)) _
        refine ⟨by omega, ?_⟩
        show AOb (((A.take i).filter (fun a => decide (atK g c a = 2))).length + 1 ≤ most) _
        refine ⟨by unfold most; omega, ?_⟩
        show ARound _ _ _ _
        exact ⟨⟨i + 1, hlt⟩, (by dsimp only; omega), [(_, 1)], (by repeat' first | exact .nil | refine .cons _ _ _ ?_ ?_ | exact .c _ _ (.own1 _ _) | exact .int_eq wi | exact .same | exact .c _ _ (.own _ _ rfl) | exact .c _ _ (.ptr _ _ _ _ rfl) | exact .c _ _ (.frz _ _ rfl) | exact .any _), (by exact .old 1 _ _ _ _ rfl rfl (.data_eq hst.symm) .nil), (by rfl)⟩
      · rw [h] at hst
        show ARound _ _ _ _
        exact ⟨⟨i + 1, hlt⟩, (by dsimp only; omega), [(1, 1)], (by repeat' first | exact .nil | refine .cons _ _ _ ?_ ?_ | exact .int_eq wi | exact .same | exact .c _ _ (.own _ _ rfl) | exact .c _ _ (.ptr _ _ _ _ rfl) | exact .c _ _ (.frz _ _ rfl) | exact .any _), (by exact .old 1 1 _ _ _ rfl rfl (.data_eq ((List.append_nil _).symm.trans hst.symm)) .nil), (by rfl)⟩
    · have hfin : (A.take i).filter (fun a => decide (atK g c a = 2)) = greyH g c := by
        unfold greyH
        rw [← hA, show i = A.length by simp at h; omega, List.take_length]
      show ARet _ _ _
      exact ⟨[(1, 0)], [(0, .data .int (greyH g c))], [.c (.own 0)], .cons _ _ _ _ (.c _ _ (.own _ _ rfl)) .nil, .old 0 1 _ _ _ rfl rfl (.data_eq hfin) .nil, rfl, rfl, rfl⟩

theorem tIn_spec (l : List Int) (a : Int) : Spec X 22 [] [.c (.d (.sl .int l)), .int a] (Ret [] (.bo (l.contains a))) := by
  refine spec_go X_ok Tryz.f22 (by kernel_rfl) (by kernel_rfl) (by kernel_rfl) fun hb hH => ⟨rfl, ?_⟩
  have hla : l.length ≤ maxN := (hb (.c (.d (.sl .int l))) (by simp)).1
  unfold maxN at hla
  show ∃ n, _
  refine ⟨0, ALoop.inv (ι := {i : Nat // i ≤ l.length ∧ (l.take i).contains a = false}) (fun q => ⟨[(0, .c (.d (.sl .int (l)))), (1, .int (a)), (5, .int (q.1))], [], 32⟩) (fun q => l.length - q.1) ⟨0, Nat.zero_le _, rfl⟩ ?_ ?_⟩
  · exact ⟨[], (by repeat' first | exact .nil | refine .cons _ _ _ ?_ ?_ | exact .same | exact .c _ _ (.own _ _ rfl) | exact .c _ _ (.ptr _ _ _ _ rfl) | exact .c _ _ (.frz _ _ rfl) | exact .any _), (by exact .nil), (by rfl)⟩
  · rintro ⟨i, hi, hv⟩
    have hi : i ≤ l.length := hi
    have hv : (l.take i).contains a = false := hv
    show ABr (decide ((i : Int) < (l.length : Int))) _ _
    refine ⟨fun h => ?_, fun h => ?_⟩
    · have hlt : i < l.length := by simpa using h
      have wi : IntKind.i64.wrap ((i : Int) + 1) = ((i + 1 : Nat) : Int) := wrapP (i := i) (by unfold maxN; omega)
      have hst : (l.take (i + 1)).contains a = ((l.take i).contains a || decide (l.getD i default = a)) := by
        rw [take_at0 hlt, List.contains_eq_any_beq, List.any_append, ← List.contains_eq_any_beq]
        simp [at0, eq_comm]
        rfl
      show AOb ((0 : Int) ≤ (i : Int) ∧ (i : Int) < (l.length : Int)) _
      refine ⟨by omega, ?_⟩
      show ABr (decide (l.getD i default = a)) _ _
      refine ⟨fun h => ?_, fun h => ?_⟩
      · show ARet _ _ _
        refine ret_bo (x := true) ?_ ⟨rfl, rfl⟩
        have hm : l.getD i default ∈ l := by
          rw [List.getD_eq_getElem?_getD, List.getElem?_eq_getElem hlt]
          exact List.getElem_mem hlt
        rw [of_decide_eq_true h] at hm
        exact (List.contains_iff_mem.2 hm).symm
      · rw [h, hv] at hst
        show ARound _ _ _ _
        exact ⟨⟨i + 1, hlt, hst⟩, (by dsimp only; omega), [], (by repeat' first | exact .nil | refine .cons _ _ _ ?_ ?_ | exact .int_eq wi | exact .same | exact .c _ _ (.own _ _ rfl) | exact .c _ _ (.ptr _ _ _ _ rfl) | exact .c _ _ (.frz _ _ rfl) | exact .any _), (by exact .nil), (by rfl)⟩
    · have hge : i = l.length := by simp at h; omega
      rw [hge, List.take_length] at hv
      show ARet _ _ _
      refine ret_bo (x := false) hv.symm ⟨rfl, rfl⟩

theorem few16_spec (g : Hp) (c : Col) : Spec X 8 [] [g.tv, c.tv] (Ret [] (.bo (few11 g c))) := by
  refine spec_go X_ok Tryz.f8 (by kernel_rfl) (by kernel_rfl) (by kernel_rfl) fun hb hH => ⟨rfl, ?_⟩
  show ACall _ _ _ _ _ _
  refine call_ret (Few_spec g) rfl ?_
  show ARet _ _ _
  refine ret_bo (x := bif fewH g then decide ((c.work.length : Int) ≤ 100) else false) ?_ ⟨rfl, rfl⟩
  unfold few11
  have e : decide ((c.work.length : Int) ≤ 100) = decide (c.work.length ≤ 100) := by rw [decide_eq_decide]; omega
  rw [e]
  cases fewH g <;> rfl

theorem len0 {α : Type} (l : List α) : decide ((l.length : Int) = 0) = decide (l = []) := by
  cases l
  · rfl
  · rw [decide_eq_decide]; constructor
    · intro h; simp at h; omega
    · intro h; cases h
theorem tOver_spec (g : Hp) (c : Col) (hl : g.light) : Spec X 15 [] [g.tv, c.tv] (Ret [] (.bo (decide (greyH g c = [] ∧ c.work = [] ∧ c.over = false ∧ c.at_ = 0 ∧ c.seek = 0)))) := by
  refine spec_go X_ok Tryz.f15 (by kernel_rfl) (by kernel_rfl) (by kernel_rfl) fun hb hH => ⟨rfl, ?_⟩
  show ACall _ _ _ _ _ _
  refine call_ret (Grey_spec g c hl) rfl ?_
  show ARet _ _ _
  refine ret_bo (x := bif (bif (bif (bif decide (((greyH g c).length : Int) = 0) then decide ((c.work.length : Int) = 0) else false) then !c.over else false) then decide (c.at_ = 0) else false) then decide (c.seek = 0) else false) ?_ ⟨rfl, rfl⟩
  rw [len0, len0]
  by_cases h1 : greyH g c = [] <;> by_cases h2 : c.work = [] <;> cases h3 : c.over <;> by_cases h4 : c.at_ = 0 <;> by_cases h5 : c.seek = 0 <;> simp [h1, h2, h4, h5]

theorem take_contains {l : List Int} {k : Nat} (h : k < l.length) (a : Int) : (l.take (k + 1)).contains a = ((l.take k).contains a || decide (l.getD k default = a)) := by
  rw [take_at0 h, List.contains_eq_any_beq, List.any_append, ← List.contains_eq_any_beq]
  simp [at0, eq_comm]
  rfl

def knownU (c : Col) (u : Int) : Bool := (c.over || (decide (u = c.at_) || (!decide (c.seek = 0) && decide (u > c.seek)))) || c.work.contains u
theorem known_all (g : Hp) (c : Col) : knownB g c = (greyH g c).all (knownU c) := by
  unfold knownB
  congr 1
  funext u
  unfold knownU
  rw [show (u == c.at_) = decide (u = c.at_) from rfl, show (c.seek != 0) = !decide (c.seek = 0) from rfl]
  cases c.over <;> cases decide (u = c.at_) <;> cases decide (c.seek = 0) <;> cases decide (u > c.seek) <;> rfl

def kB (b : Bool) (l : List Int) (k : Nat) (u : Int) : Bool := b || (l.take k).contains u
theorem kB_step {l : List Int} {k : Nat} (h : k < l.length) (b : Bool) (u : Int) : kB b l (k + 1) u = (kB b l k u || decide (l.getD k default = u)) := by
  unfold kB
  rw [take_contains h, Bool.or_assoc]
theorem kB_zero (b : Bool) (l : List Int) (u : Int) : kB b l 0 u = b := by unfold kB; simp
theorem kB_all (b : Bool) (l : List Int) (u : Int) : kB b l l.length u = (b || l.contains u) := by unfold kB; rw [List.take_length]


set_option maxHeartbeats 2000000 in
theorem tKnown_spec (g : Hp) (c : Col) (hl : g.light) (hw : ∀ x ∈ g.w, I64 x) (hcw : c.work.length ≤ maxN) : Spec X 10 [] [g.tv, c.tv] (Ret [] (.int (bif knownB g c then 0 else 1))) := by
  refine spec_go X_ok Tryz.f10 (by kernel_rfl) (by kernel_rfl) (by kernel_rfl) fun hb hH => ⟨rfl, ?_⟩
  unfold maxN at hcw
  show ACall _ _ _ _ _ _
  refine .mk _ (rGrey11_spec g c hl hw) fun H r ⟨eH, er⟩ _ _ => ⟨.inl rfl, ?_⟩
  subst eH er
  obtain ⟨U, hU⟩ : ∃ U, U = greyH g c := ⟨_, rfl⟩
  rw [← hU]
  have hUl : U.length ≤ 512 := by
    rw [hU]
    exact Nat.le_trans (List.length_filter_le _ _) (used_len g)
  show ∃ n, _
  refine ⟨0, ALoop.inv (ι := {i : Nat // i ≤ U.length ∧ (U.take i).all (knownU c) = true}) (fun q => ⟨[(2, .c (.d (.rp (g.enc)))), (3, .c (.d (.rp (c.enc)))), (5, .c (.d (.sl .int (U)))), (6, .int (q.1))], [], 32⟩) (fun q => U.length - q.1) ⟨0, Nat.zero_le _, rfl⟩ ?_ ?_⟩
  · exact ⟨[], (by repeat' first | exact .nil | refine .cons _ _ _ ?_ ?_ | exact .same | exact .c _ _ (.own _ _ rfl) | exact .c _ _ (.ptr _ _ _ _ rfl) | exact .c _ _ (.frz _ _ rfl) | exact .any _), (by exact .nil), (by rfl)⟩
  · rintro ⟨i, hi, hv⟩
    show ABr (decide ((i : Int) < (U.length : Int))) _ _
    refine ⟨fun h => ?_, fun h => ?_⟩
    · have hlt : i < U.length := by simpa using h
      have wi : IntKind.i64.wrap ((i : Int) + 1) = ((i + 1 : Nat) : Int) := wrapP (i := i) (by unfold maxN; omega)
      obtain ⟨b0, hb0⟩ : ∃ b0, b0 = (c.over || (decide (U.getD i default = c.at_) || (!decide (c.seek = 0) && decide (U.getD i default > c.seek)))) := ⟨_, rfl⟩
      show ABr c.over _ _
      refine ⟨fun h => ?_, fun h => ?_⟩
      · conv => whnf
        refine ⟨fun _ => ?_, fun h => absurd h (by decide)⟩
        have e1 : true = b0 := by rw [hb0, h]; rfl
        have e0 : true = kB b0 c.work 0 (U.getD i default) := by rw [← e1]; rfl
        show ∃ n, _
        refine ⟨0, ALoop.inv (ι := {k : Nat // k ≤ c.work.length}) (fun q => ⟨[(2, .c (.d (.rp (g.enc)))), (3, .c (.d (.rp (c.enc)))), (5, .c (.d (.sl .int (U)))), (6, .int (i)), (7, .bo ((kB b0 c.work q.1 (U.getD i default)))), (8, .int (q.1))], [], 32⟩) (fun q => c.work.length - q.1) ⟨0, Nat.zero_le _⟩ ?_ ?_⟩
        · exact ⟨[], (by repeat' first | exact .nil | refine .cons _ _ _ ?_ ?_ | exact .bo_eq e0 | exact .same | exact .c _ _ (.own _ _ rfl) | exact .c _ _ (.ptr _ _ _ _ rfl) | exact .c _ _ (.frz _ _ rfl) | exact .any _), (by exact .nil), (by rfl)⟩
        rintro ⟨k, hk⟩
        show ABr (decide ((k : Int) < (c.work.length : Int))) _ _
        refine ⟨fun h => ?_, fun h => ?_⟩
        · have hkl : k < c.work.length := by simpa using h
          have wk : IntKind.i64.wrap ((k : Int) + 1) = ((k + 1 : Nat) : Int) := wrapP (i := k) (by unfold maxN; omega)
          have hst := kB_step hkl b0 (U.getD i default)
          show ABr (kB b0 c.work k (U.getD i default)) _ _
          refine ⟨fun h => ?_, fun h => ?_⟩
          · rw [h, Bool.true_or] at hst
            show ARound _ _ _ _
            exact ⟨⟨k + 1, hkl⟩, (by dsimp only; omega), [], (by repeat' first | exact .nil | refine .cons _ _ _ ?_ ?_ | exact .int_eq wk | exact .bo_eq hst.symm | exact .same | exact .c _ _ (.own _ _ rfl) | exact .c _ _ (.ptr _ _ _ _ rfl) | exact .c _ _ (.frz _ _ rfl) | exact .any _), (by exact .nil), (by rfl)⟩
          · rw [h, Bool.false_or] at hst
            show AOb ((0 : Int) ≤ (k : Int) ∧ (k : Int) < (c.work.length : Int)) _
            refine ⟨by omega, ?_⟩
            show AOb ((0 : Int) ≤ (i : Int) ∧ (i : Int) < (U.length : Int)) _
            refine ⟨by omega, ?_⟩
            show ARound _ _ _ _
            exact ⟨⟨k + 1, hkl⟩, (by dsimp only; omega), [], (by repeat' first | exact .nil | refine .cons _ _ _ ?_ ?_ | exact .int_eq wk | exact .bo_eq hst.symm | exact .same | exact .c _ _ (.own _ _ rfl) | exact .c _ _ (.ptr _ _ _ _ rfl) | exact .c _ _ (.frz _ _ rfl) | exact .any _), (by exact .nil), (by rfl)⟩
        · have hke : k = c.work.length := by simp at h; omega
          show ABr (!(kB b0 c.work k (U.getD i default))) _ _
          have hkb : kB b0 c.work k (U.getD i default) = (b0 || c.work.contains (U.getD i default)) := by rw [hke, kB_all]
          refine ⟨fun h => ?_, fun h => ?_⟩
          · rw [hkb] at h
            show ARet _ _ _
            refine ret_int (x := 1) ?_ ⟨rfl, rfl⟩
            have hm : U.getD i default ∈ U := by
              rw [List.getD_eq_getElem?_getD, List.getElem?_eq_getElem hlt]
              exact List.getElem_mem hlt
            have hn : knownU c (U.getD i default) = false := by
              unfold knownU
              rw [← hb0]
              simpa using h
            rw [known_all, ← hU]
            cases hall : U.all (knownU c) with
            | false => rfl
            | true => rw [List.all_eq_true.1 hall _ hm] at hn; cases hn
          · rw [hkb] at h
            have hv' : (U.take (i + 1)).all (knownU c) = true := by
              rw [take_at0 hlt, List.all_append, hv]
              have hn : knownU c (U.getD i default) = true := by
                unfold knownU
                rw [← hb0]
                cases hz : (b0 || c.work.contains (U.getD i default)) with
                | true => rfl
                | false => rw [hz] at h; exact absurd h (by decide)
              simpa [at0] using hn
            show ARound _ _ _ _
            exact ⟨⟨i + 1, hlt, hv'⟩, (by dsimp only; omega), [], (by repeat' first | exact .nil | refine .cons _ _ _ ?_ ?_ | exact .int_eq wi | exact .same | exact .c _ _ (.own _ _ rfl) | exact .c _ _ (.ptr _ _ _ _ rfl) | exact .c _ _ (.frz _ _ rfl) | exact .any _), (by exact .nil), (by rfl)⟩
      · show AOb ((0 : Int) ≤ (i : Int) ∧ (i : Int) < (U.length : Int)) _
        refine ⟨by omega, ?_⟩
        show ABr (decide (U.getD i default = c.at_)) _ _
        refine ⟨fun h2 => ?_, fun h2 => ?_⟩
        · have e1 : true = b0 := by rw [hb0, h, h2]; rfl
          have e0 : true = kB b0 c.work 0 (U.getD i default) := by rw [← e1]; rfl
          show ∃ n, _
          refine ⟨0, ALoop.inv (ι := {k : Nat // k ≤ c.work.length}) (fun q => ⟨[(2, .c (.d (.rp (g.enc)))), (3, .c (.d (.rp (c.enc)))), (5, .c (.d (.sl .int (U)))), (6, .int (i)), (7, .bo ((kB b0 c.work q.1 (U.getD i default)))), (8, .int (q.1))], [], 32⟩) (fun q => c.work.length - q.1) ⟨0, Nat.zero_le _⟩ ?_ ?_⟩
          · exact ⟨[], (by repeat' first | exact .nil | refine .cons _ _ _ ?_ ?_ | exact .bo_eq e0 | exact .same | exact .c _ _ (.own _ _ rfl) | exact .c _ _ (.ptr _ _ _ _ rfl) | exact .c _ _ (.frz _ _ rfl) | exact .any _), (by exact .nil), (by rfl)⟩
          rintro ⟨k, hk⟩
          show ABr (decide ((k : Int) < (c.work.length : Int))) _ _
          refine ⟨fun h => ?_, fun h => ?_⟩
          · have hkl : k < c.work.length := by simpa using h
            have wk : IntKind.i64.wrap ((k : Int) + 1) = ((k + 1 : Nat) : Int) := wrapP (i := k) (by unfold maxN; omega)
            have hst := kB_step hkl b0 (U.getD i default)
            show ABr (kB b0 c.work k (U.getD i default)) _ _
            refine ⟨fun h => ?_, fun h => ?_⟩
            · rw [h, Bool.true_or] at hst
              show ARound _ _ _ _
              exact ⟨⟨k + 1, hkl⟩, (by dsimp only; omega), [], (by repeat' first | exact .nil | refine .cons _ _ _ ?_ ?_ | exact .int_eq wk | exact .bo_eq hst.symm | exact .same | exact .c _ _ (.own _ _ rfl) | exact .c _ _ (.ptr _ _ _ _ rfl) | exact .c _ _ (.frz _ _ rfl) | exact .any _), (by exact .nil), (by rfl)⟩
            · rw [h, Bool.false_or] at hst
              show AOb ((0 : Int) ≤ (k : Int) ∧ (k : Int) < (c.work.length : Int)) _
              refine ⟨by omega, ?_⟩
              show AOb ((0 : Int) ≤ (i : Int) ∧ (i : Int) < (U.length : Int)) _
              refine ⟨by omega, ?_⟩
              show ARound _ _ _ _
              exact ⟨⟨k + 1, hkl⟩, (by dsimp only; omega), [], (by repeat' first | exact .nil | refine .cons _ _ _ ?_ ?_ | exact .int_eq wk | exact .bo_eq hst.symm | exact .same | exact .c _ _ (.own _ _ rfl) | exact .c _ _ (.ptr _ _ _ _ rfl) | exact .c _ _ (.frz _ _ rfl) | exact .any _), (by exact .nil), (by rfl)⟩
          · have hke : k = c.work.length := by simp at h; omega
            show ABr (!(kB b0 c.work k (U.getD i default))) _ _
            have hkb : kB b0 c.work k (U.getD i default) = (b0 || c.work.contains (U.getD i default)) := by rw [hke, kB_all]
            refine ⟨fun h => ?_, fun h => ?_⟩
            · rw [hkb] at h
              show ARet _ _ _
              refine ret_int (x := 1) ?_ ⟨rfl, rfl⟩
              have hm : U.getD i default ∈ U := by
                rw [List.getD_eq_getElem?_getD, List.getElem?_eq_getElem hlt]
                exact List.getElem_mem hlt
              have hn : knownU c (U.getD i default) = false := by
                unfold knownU
                rw [← hb0]
                simpa using h
              rw [known_all, ← hU]
              cases hall : U.all (knownU c) with
              | false => rfl
              | true => rw [List.all_eq_true.1 hall _ hm] at hn; cases hn
            · rw [hkb] at h
              have hv' : (U.take (i + 1)).all (knownU c) = true := by
                rw [take_at0 hlt, List.all_append, hv]
                have hn : knownU c (U.getD i default) = true := by
                  unfold knownU
                  rw [← hb0]
                  cases hz : (b0 || c.work.contains (U.getD i default)) with
                  | true => rfl
                  | false => rw [hz] at h; exact absurd h (by decide)
                simpa [at0] using hn
              show ARound _ _ _ _
              exact ⟨⟨i + 1, hlt, hv'⟩, (by dsimp only; omega), [], (by repeat' first | exact .nil | refine .cons _ _ _ ?_ ?_ | exact .int_eq wi | exact .same | exact .c _ _ (.own _ _ rfl) | exact .c _ _ (.ptr _ _ _ _ rfl) | exact .c _ _ (.frz _ _ rfl) | exact .any _), (by exact .nil), (by rfl)⟩
        · show ABr (!decide (c.seek = 0)) _ _
          refine ⟨fun h3 => ?_, fun h3 => ?_⟩
          · show AOb ((0 : Int) ≤ (i : Int) ∧ (i : Int) < (U.length : Int)) _
            refine ⟨by omega, ?_⟩
            have e1 : decide (U.getD i default > c.seek) = b0 := by rw [hb0, h, h2, h3]; rfl
            have e0 : decide (U.getD i default > c.seek) = kB b0 c.work 0 (U.getD i default) := by rw [e1, kB_zero]
            show ∃ n, _
            refine ⟨0, ALoop.inv (ι := {k : Nat // k ≤ c.work.length}) (fun q => ⟨[(2, .c (.d (.rp (g.enc)))), (3, .c (.d (.rp (c.enc)))), (5, .c (.d (.sl .int (U)))), (6, .int (i)), (7, .bo ((kB b0 c.work q.1 (U.getD i default)))), (8, .int (q.1))], [], 32⟩) (fun q => c.work.length - q.1) ⟨0, Nat.zero_le _⟩ ?_ ?_⟩
            · exact ⟨[], (by repeat' first | exact .nil | refine .cons _ _ _ ?_ ?_ | exact .bo_eq e0 | exact .same | exact .c _ _ (.own _ _ rfl) | exact .c _ _ (.ptr _ _ _ _ rfl) | exact .c _ _ (.frz _ _ rfl) | exact .any _), (by exact .nil), (by rfl)⟩
            rintro ⟨k, hk⟩
            show ABr (decide ((k : Int) < (c.work.length : Int))) _ _
            refine ⟨fun h => ?_, fun h => ?_⟩
            · have hkl : k < c.work.length := by simpa using h
              have wk : IntKind.i64.wrap ((k : Int) + 1) = ((k + 1 : Nat) : Int) := wrapP (i := k) (by unfold maxN; omega)
              have hst := kB_step hkl b0 (U.getD i default)
              show ABr (kB b0 c.work k (U.getD i default)) _ _
              refine ⟨fun h => ?_, fun h => ?_⟩
              · rw [h, Bool.true_or] at hst
                show ARound _ _ _ _
                exact ⟨⟨k + 1, hkl⟩, (by dsimp only; omega), [], (by repeat' first | exact .nil | refine .cons _ _ _ ?_ ?_ | exact .int_eq wk | exact .bo_eq hst.symm | exact .same | exact .c _ _ (.own _ _ rfl) | exact .c _ _ (.ptr _ _ _ _ rfl) | exact .c _ _ (.frz _ _ rfl) | exact .any _), (by exact .nil), (by rfl)⟩
              · rw [h, Bool.false_or] at hst
                show AOb ((0 : Int) ≤ (k : Int) ∧ (k : Int) < (c.work.length : Int)) _
                refine ⟨by omega, ?_⟩
                show AOb ((0 : Int) ≤ (i : Int) ∧ (i : Int) < (U.length : Int)) _
                refine ⟨by omega, ?_⟩
                show ARound _ _ _ _
                exact ⟨⟨k + 1, hkl⟩, (by dsimp only; omega), [], (by repeat' first | exact .nil | refine .cons _ _ _ ?_ ?_ | exact .int_eq wk | exact .bo_eq hst.symm | exact .same | exact .c _ _ (.own _ _ rfl) | exact .c _ _ (.ptr _ _ _ _ rfl) | exact .c _ _ (.frz _ _ rfl) | exact .any _), (by exact .nil), (by rfl)⟩
            · have hke : k = c.work.length := by simp at h; omega
              show ABr (!(kB b0 c.work k (U.getD i default))) _ _
              have hkb : kB b0 c.work k (U.getD i default) = (b0 || c.work.contains (U.getD i default)) := by rw [hke, kB_all]
              refine ⟨fun h => ?_, fun h => ?_⟩
              · rw [hkb] at h
                show ARet _ _ _
                refine ret_int (x := 1) ?_ ⟨rfl, rfl⟩
                have hm : U.getD i default ∈ U := by
                  rw [List.getD_eq_getElem?_getD, List.getElem?_eq_getElem hlt]
                  exact List.getElem_mem hlt
                have hn : knownU c (U.getD i default) = false := by
                  unfold knownU
                  rw [← hb0]
                  simpa using h
                rw [known_all, ← hU]
                cases hall : U.all (knownU c) with
                | false => rfl
                | true => rw [List.all_eq_true.1 hall _ hm] at hn; cases hn
              · rw [hkb] at h
                have hv' : (U.take (i + 1)).all (knownU c) = true := by
                  rw [take_at0 hlt, List.all_append, hv]
                  have hn : knownU c (U.getD i default) = true := by
                    unfold knownU
                    rw [← hb0]
                    cases hz : (b0 || c.work.contains (U.getD i default)) with
                    | true => rfl
                    | false => rw [hz] at h; exact absurd h (by decide)
                  simpa [at0] using hn
                show ARound _ _ _ _
                exact ⟨⟨i + 1, hlt, hv'⟩, (by dsimp only; omega), [], (by repeat' first | exact .nil | refine .cons _ _ _ ?_ ?_ | exact .int_eq wi | exact .same | exact .c _ _ (.own _ _ rfl) | exact .c _ _ (.ptr _ _ _ _ rfl) | exact .c _ _ (.frz _ _ rfl) | exact .any _), (by exact .nil), (by rfl)⟩
          · have e1 : false = b0 := by rw [hb0, h, h2, h3]; rfl
            have e0 : false = kB b0 c.work 0 (U.getD i default) := by rw [kB_zero]; exact e1
            show ∃ n, _
            refine ⟨0, ALoop.inv (ι := {k : Nat // k ≤ c.work.length}) (fun q => ⟨[(2, .c (.d (.rp (g.enc)))), (3, .c (.d (.rp (c.enc)))), (5, .c (.d (.sl .int (U)))), (6, .int (i)), (7, .bo ((kB b0 c.work q.1 (U.getD i default)))), (8, .int (q.1))], [], 32⟩) (fun q => c.work.length - q.1) ⟨0, Nat.zero_le _⟩ ?_ ?_⟩
            · exact ⟨[], (by repeat' first | exact .nil | refine .cons _ _ _ ?_ ?_ | exact .bo_eq e0 | exact .same | exact .c _ _ (.own _ _ rfl) | exact .c _ _ (.ptr _ _ _ _ rfl) | exact .c _ _ (.frz _ _ rfl) | exact .any _), (by exact .nil), (by rfl)⟩
            rintro ⟨k, hk⟩
            show ABr (decide ((k : Int) < (c.work.length : Int))) _ _
            refine ⟨fun h => ?_, fun h => ?_⟩
            · have hkl : k < c.work.length := by simpa using h
              have wk : IntKind.i64.wrap ((k : Int) + 1) = ((k + 1 : Nat) : Int) := wrapP (i := k) (by unfold maxN; omega)
              have hst := kB_step hkl b0 (U.getD i default)
              show ABr (kB b0 c.work k (U.getD i default)) _ _
              refine ⟨fun h => ?_, fun h => ?_⟩
              · rw [h, Bool.true_or] at hst
                show ARound _ _ _ _
                exact ⟨⟨k + 1, hkl⟩, (by dsimp only; omega), [], (by repeat' first | exact .nil | refine .cons _ _ _ ?_ ?_ | exact .int_eq wk | exact .bo_eq hst.symm | exact .same | exact .c _ _ (.own _ _ rfl) | exact .c _ _ (.ptr _ _ _ _ rfl) | exact .c _ _ (.frz _ _ rfl) | exact .any _), (by exact .nil), (by rfl)⟩
              · rw [h, Bool.false_or] at hst
                show AOb ((0 : Int) ≤ (k : Int) ∧ (k : Int) < (c.work.length : Int)) _
                refine ⟨by omega, ?_⟩
                show AOb ((0 : Int) ≤ (i : Int) ∧ (i : Int) < (U.length : Int)) _
                refine ⟨by omega, ?_⟩
                show ARound _ _ _ _
                exact ⟨⟨k + 1, hkl⟩, (by dsimp only; omega), [], (by repeat' first | exact .nil | refine .cons _ _ _ ?_ ?_ | exact .int_eq wk | exact .bo_eq hst.symm | exact .same | exact .c _ _ (.own _ _ rfl) | exact .c _ _ (.ptr _ _ _ _ rfl) | exact .c _ _ (.frz _ _ rfl) | exact .any _), (by exact .nil), (by rfl)⟩
            · have hke : k = c.work.length := by simp at h; omega
              show ABr (!(kB b0 c.work k (U.getD i default))) _ _
              have hkb : kB b0 c.work k (U.getD i default) = (b0 || c.work.contains (U.getD i default)) := by rw [hke, kB_all]
              refine ⟨fun h => ?_, fun h => ?_⟩
              · rw [hkb] at h
                show ARet _ _ _
                refine ret_int (x := 1) ?_ ⟨rfl, rfl⟩
                have hm : U.getD i default ∈ U := by
                  rw [List.getD_eq_getElem?_getD, List.getElem?_eq_getElem hlt]
                  exact List.getElem_mem hlt
                have hn : knownU c (U.getD i default) = false := by
                  unfold knownU
                  rw [← hb0]
                  simpa using h
                rw [known_all, ← hU]
                cases hall : U.all (knownU c) with
                | false => rfl
                | true => rw [List.all_eq_true.1 hall _ hm] at hn; cases hn
              · rw [hkb] at h
                have hv' : (U.take (i + 1)).all (knownU c) = true := by
                  rw [take_at0 hlt, List.all_append, hv]
                  have hn : knownU c (U.getD i default) = true := by
                    unfold knownU
                    rw [← hb0]
                    cases hz : (b0 || c.work.contains (U.getD i default)) with
                    | true => rfl
                    | false => rw [hz] at h; exact absurd h (by decide)
                  simpa [at0] using hn
                show ARound _ _ _ _
                exact ⟨⟨i + 1, hlt, hv'⟩, (by dsimp only; omega), [], (by repeat' first | exact .nil | refine .cons _ _ _ ?_ ?_ | exact .int_eq wi | exact .same | exact .c _ _ (.own _ _ rfl) | exact .c _ _ (.ptr _ _ _ _ rfl) | exact .c _ _ (.frz _ _ rfl) | exact .any _), (by exact .nil), (by rfl)⟩
    · have hge : i = U.length := by simp at h; omega
      have hv : (U.take i).all (knownU c) = true := hv
      rw [hge, List.take_length, hU, ← known_all] at hv
      show ARet _ _ _
      refine ret_int (x := 0) ?_ ⟨rfl, rfl⟩
      rw [hv]
      rfl
end Go.Abs
