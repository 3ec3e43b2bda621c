/- Walks and plain laws: WTopG. -/
import Derived.Test.YtlankjlnnimdoaaGreatDoorPi
set_option linter.all false
set_option linter.unusedVariables false
set_option linter.unusedSimpArgs false
namespace Go.Abs
open Go.Proofs Go.Proofs.YtlankjlnnimdoaaGreatDoor
set_option maxRecDepth 60000
set_option maxHeartbeats 4000000
theorem zuh {e:Int} {x:Hd} (h:EpX e x):(bif (bif decide (x.mark > e) then true else decide (x.born > e)) then true else (bif decide (x.born > x.mark) then !x.old else false))=false:=by
 obtain ⟨h1,h2,h3⟩:=h
 rw [decide_eq_false (show ¬ x.mark > e by omega),decide_eq_false (show ¬ x.born > e by omega)]
 cases ho:x.old with
 | true=>cases decide (x.born > x.mark) <;> rfl
 | false=>rw [decide_eq_false (show ¬ x.born > x.mark by have:=h3 ho;omega)];rfl
theorem TopEpoch_spec (n : Int) (l : List (List Op)) (e : List Pair) : Spec X 4 [] [.int n, .c (.d (.sl .opss l)), .c (.d (.sl .pair e))] (Ret [] (.bo true)) := by
  refine zd X_ok Tryz.f4 (by kernel_rfl) (by kernel_rfl) (by kernel_rfl) fun hb hH => ⟨rfl, ?_⟩
  have hle : e.length ≤ zD := (hb (.c (.d (.sl .pair e))) (by simp)).1
  unfold zD at hle
  show ACall _ _ _ _ _ _
  refine za (zuT) rfl ?_
  show ACall _ _ _ _ _ _
  refine za (zhB l e 120) rfl ?_
  cases hL : zew l e 120 with
  | false =>
    show ABr true _ _
    show ABr _ _ _
    refine ⟨fun _ => ?_, fun h => absurd h (by decide)⟩
    show ARet _ _ _
    exact zi rfl ⟨rfl, rfl⟩
  | true =>
    show ABr (decide (n > 4)) _ _
    by_cases hn : n ≤ 4
    · rw [decide_eq_false (show ¬ n > 4 by omega)]
      show ABr _ _ _
      refine ⟨fun h => absurd h (by decide), fun _ => ?_⟩
      show ACall _ _ _ _ _ _
      refine za (zit n l) rfl ?_
      have hel : e.length ≤ 120 := by
        unfold zew at hL
        simp only [Bool.and_eq_true, decide_eq_true_eq] at hL
        omega
      show ABr (zcT n l != 0) _ _
      by_cases h0 : zcT n l ≠ 0
      · rw [show (zcT n l != 0) = true by simpa using h0]
        show ABr _ _ _
        refine ⟨fun _ => ?_, fun h => absurd h (by decide)⟩
        show ARet _ _ _
        exact zi rfl ⟨rfl, rfl⟩
      · rw [show (zcT n l != 0) = false by simpa using h0]
        show ABr _ _ _
        refine ⟨fun h => absurd h (by decide), fun _ => ?_⟩
        have h0 := Classical.not_not.1 h0
        have hF' := zna h0 (e := e) (by omega)
        have hM := (zjC h0).1
        have hE := EpW.made h0
        generalize madeW n l = W at hF' hM hE ⊢
        show ∃ n, _
        refine ⟨0, ALoop.inv (ι := {i : Nat // i ≤ e.length}) (fun q => ⟨[(2, (.c (.d (.sl .pair e)))), (9, .c (.ptr 0 0 0)), (11, .int (q.1))], [(0, .vars ((runW W (e.take q.1)).cells.map .d))], 64⟩) (fun q => e.length - q.1) ⟨0, Nat.zero_le _⟩ ?_ ?_⟩
        · exact ⟨[(768, 0)], (by repeat' first | exact .nil | refine .cons _ _ _ ?_ ?_ | exact .c _ _ (.ptr _ _ _ _ rfl) | exact .same | exact .c _ _ (.own _ _ rfl) | exact .c _ _ (.ptr _ _ _ _ rfl) | exact .c _ _ (.frz _ _ rfl) | exact .any _), (by exact .old 0 768 _ _ _ rfl rfl (.vars _ _ (by repeat (first | exact .nil | refine .cons _ _ _ _ (.d _) ?_))) .nil), (by rfl)⟩
        rintro ⟨i, hi⟩
        show ABr (decide ((i : Int) < (e.length : Int))) _ _
        refine ⟨fun h => ?_, fun h => ?_⟩
        · have hlt : i < e.length := by simpa using h
          have wi : IntKind.i64.wrap ((i : Int) + 1) = ((i + 1 : Nat) : Int) := zad (i := i) (by unfold zD; omega)
          show AOb _ _
          refine ⟨by exact ⟨Int.natCast_nonneg _, Int.ofNat_lt.2 hlt⟩, ?_⟩
          show ADCall _ _ _ _ _ _
          refine .mk _ _ (zcD (runW W (e.take i)) (e.getD i default) (hF' i)) rfl ?_
          generalize doWE (runW W (e.take i)) (e.getD i default) = x
          have hfit := hF' (i + 1)
          have hep := hE.run (e.take (i + 1))
          have hmay := zmA hM (e.take (i + 1))
          rw [← zh0 W hlt]
          obtain ⟨w', hw'⟩ : ∃ w', w' = runW W (e.take (i + 1)) := ⟨_, rfl⟩
          rw [← hw'] at hfit hep hmay ⊢
          have hlen := hfit.len
          have hlight := zjR hmay
          have hul : (zam w'.h).length ≤ 512 := by
            rw [zbT (zfS (zaW.1 hmay).2.2.2)]
            refine Nat.le_trans (List.length_filter_le _ _) ?_
            unfold cellStarts
            rw [List.length_map]
            exact zdi _
          show ACall _ _ _ _ _ _
          refine za (zkb w' hmay) rfl ?_
          obtain ⟨U, hU⟩ : ∃ U, U = zam w'.h := ⟨_, rfl⟩
          rw [← hU] at hul ⊢
          show ∃ n, _
          refine ⟨0, ALoop.inv (ι := {j : Nat // j ≤ U.length}) (fun q => ⟨[(2, (.c (.d (.sl .pair e)))), (9, .c (.ptr 0 0 0)), (11, .int ((i : Int))), (12, .c (.d (.sl .int (U)))), (13, .int (q.1))], [(0, .vars (w'.cells.map .d))], 64⟩) (fun q => U.length - q.1) ⟨0, Nat.zero_le _⟩ ?_ ?_⟩
          · exact ⟨[(0, 0)], (by repeat' first | exact .nil | refine .cons _ _ _ ?_ ?_ | exact .c _ _ (.ptr _ _ _ _ rfl) | exact .same | exact .c _ _ (.own _ _ rfl) | exact .c _ _ (.ptr _ _ _ _ rfl) | exact .c _ _ (.frz _ _ rfl) | exact .any _), (by exact .old 0 0 _ _ _ rfl rfl (.vars _ _ (by repeat (first | exact .nil | refine .cons _ _ _ _ (.d _) ?_))) .nil), (by rfl)⟩
          rintro ⟨j, hj⟩
          show ABr (decide ((j : Int) < (U.length : Int))) _ _
          refine ⟨fun h => ?_, fun h => ?_⟩
          · have hjl : j < U.length := by simpa using h
            have wj : IntKind.i64.wrap ((j : Int) + 1) = ((j + 1 : Nat) : Int) := zad (i := j) (by unfold zD; omega)
            have hmem : headE w'.h (U.getD j default) = 0 := zbd.1 (hU ▸ zcf hjl)
            show AOb _ _
            refine ⟨by exact ⟨Int.natCast_nonneg _, Int.ofNat_lt.2 hjl⟩, ?_⟩
            show ADCall _ _ _ _ _ _
            refine .mk _ _ (zav w'.h (U.getD j default) hlight) rfl ?_
            have hx := hep.h _ hmem
            show ABr _ _ _
            refine ⟨fun k => absurd (k.symm.trans (zuh hx)) (by decide), fun _ => ?_⟩
            show ARound _ _ _ _
            exact ⟨⟨j + 1, hjl⟩, (by dsimp only; omega), [(0, 0)], (by repeat' first | exact .nil | refine .cons _ _ _ ?_ ?_ | exact .c _ _ (.ptr _ _ _ _ rfl) | exact .int_eq wj | exact .same | exact .c _ _ (.own _ _ rfl) | exact .c _ _ (.ptr _ _ _ _ rfl) | exact .c _ _ (.frz _ _ rfl) | exact .any _), (by exact .old 0 0 _ _ _ rfl rfl (.vars _ _ (by repeat (first | exact .nil | refine .cons _ _ _ _ (.d _) ?_))) .nil), (by rfl)⟩
          · show ∃ n, _
            refine ⟨0, ALoop.inv (ι := {j : Nat // j ≤ w'.t.length}) (fun q => ⟨[(2, (.c (.d (.sl .pair e)))), (9, .c (.ptr 0 0 0)), (11, .int ((i : Int))), (16, .int (q.1))], [(0, .vars (w'.cells.map .d))], 64⟩) (fun q => w'.t.length - q.1) ⟨0, Nat.zero_le _⟩ ?_ ?_⟩
            · exact ⟨[(0, 0)], (by repeat' first | exact .nil | refine .cons _ _ _ ?_ ?_ | exact .c _ _ (.ptr _ _ _ _ rfl) | exact .same | exact .c _ _ (.own _ _ rfl) | exact .c _ _ (.ptr _ _ _ _ rfl) | exact .c _ _ (.frz _ _ rfl) | exact .any _), (by exact .old 0 0 _ _ _ rfl rfl (.vars _ _ (by repeat (first | exact .nil | refine .cons _ _ _ _ (.d _) ?_))) .nil), (by rfl)⟩
            rintro ⟨j, hj⟩
            show ABr (decide ((j : Int) < (w'.t.length : Int))) _ _
            refine ⟨fun h => ?_, fun h => ?_⟩
            · have hjl : j < w'.t.length := by simpa using h
              have wj : IntKind.i64.wrap ((j : Int) + 1) = ((j + 1 : Nat) : Int) := zad (i := j) (by unfold zD; omega)
              have hT := hep.t _ (zcf hjl)
              show AOb _ _
              refine ⟨by exact ⟨Int.natCast_nonneg _, Int.ofNat_lt.2 hjl⟩, ?_⟩
              show ABr (decide ((w'.t.getD j default).epoch > w'.c.epoch)) _ _
              rw [decide_eq_false (show ¬ (w'.t.getD j default).epoch > w'.c.epoch by omega)]
              show ABr _ _ _
              refine ⟨fun h => absurd h (by decide), fun _ => ?_⟩
              show ARound _ _ _ _
              exact ⟨⟨j + 1, hjl⟩, (by dsimp only; omega), [(0, 0)], (by repeat' first | exact .nil | refine .cons _ _ _ ?_ ?_ | exact .c _ _ (.ptr _ _ _ _ rfl) | exact .int_eq wj | exact .same | exact .c _ _ (.own _ _ rfl) | exact .c _ _ (.ptr _ _ _ _ rfl) | exact .c _ _ (.frz _ _ rfl) | exact .any _), (by exact .old 0 0 _ _ _ rfl rfl (.vars _ _ (by repeat (first | exact .nil | refine .cons _ _ _ _ (.d _) ?_))) .nil), (by rfl)⟩
            · show ARound _ _ _ _
              exact ⟨⟨i + 1, hlt⟩, (by dsimp only; omega), [(0, 0)], (by repeat' first | exact .nil | refine .cons _ _ _ ?_ ?_ | exact .c _ _ (.ptr _ _ _ _ rfl) | exact .int_eq wi | exact .same | exact .c _ _ (.own _ _ rfl) | exact .c _ _ (.ptr _ _ _ _ rfl) | exact .c _ _ (.frz _ _ rfl) | exact .any _), (by exact .old 0 0 _ _ _ rfl rfl (.vars _ _ (by rw [← hw']; repeat (first | exact .nil | refine .cons _ _ _ _ (.d _) ?_))) .nil), (by rfl)⟩
        · show ARet _ _ _
          exact zi rfl ⟨rfl, rfl⟩
    · rw [decide_eq_true (show n > 4 by omega)]
      show ABr _ _ _
      refine ⟨fun _ => ?_, fun h => absurd h (by decide)⟩
      show ARet _ _ _
      exact zi rfl ⟨rfl, rfl⟩
end Go.Abs
