/- What the laws with a tied card share: the variable that is laid, read. -/
import Derived.Test.YtpkngagppfoccaaGreatDoorRows
import Derived.Test.YtpkngagppfoccaaGreatDoorTie
import Derived.Test.YtpkngagppfoccaaGreatDoorCards
import Derived.Test.YtpkngagppfoccaaGreatDoorAbsLaw1
import Derived.Below
import Derived.Carry
import Derived.SizedLaws
import Derived.LaidMore
import Derived.Stop.Joined
import Derived.SevenTiedAt
set_option linter.all false
set_option linter.unusedVariables false
namespace Go.Proofs.YtpkngagppfoccaaGreatDoor
open Go.ChangeShapes Go.WideShapes Go.ChangeAt Go.RowKit

abbrev laidW : List (String × DataW Unit) := [("ragpicker/class.words", Rows.laid_ragpicker_class_words)]
theorem gWords : Tryz.prog.globalNamed "ragpicker/class.words" = some 0 := by kernel_rfl
theorem tWords : (Tryz.prog.globals[0]?).map (·.type) = some 127 := by kernel_rfl

theorem door_met (os : Os) (args : Array Value) : laidMetH Tryz.prog laidW ((World.doorLaid Tryz.prog 400 os).forCall (fun _ _ => 0) ⟨#[], args, []⟩).memory :=
  laidMetH_of_parts3 (fuel := 8) (laidMet_of_run' 8 (by kernel_rfl) (by kernel_rfl)) (by kernel_rfl) (by kernel_rfl)

set_option maxRecDepth 100000 in
theorem of_laid {W : World} (h : laidMetH Tryz.prog laidW W) : Abs.GOk Abs.X (Abs.OO Abs.nn Abs.no) W := by
  rw [MakeChecks.laidMetH_plain _ _ _ (by kernel_rfl)] at h
  obtain ⟨ps, ⟨g0, t0, cs0, f0, p0, q0, hg0, ht0, hv0, hd0, _, _⟩, _, _⟩ := h
  obtain rfl := Option.some.inj (gWords.symm.trans hg0)
  obtain rfl := Option.some.inj (tWords.symm.trans ht0)
  obtain ⟨xs, m1, _, hx1, hlen, hn3, hel⟩ := DataW.trod_array Tryz.underlying127 hd0
  have c1 : Tryz.prog.cellsOf 3 = 1 := by kernel_rfl
  have c3 : Tryz.prog.cellsOf 127 = 3 := by kernel_rfl
  rw [c3] at hlen
  have hcell : ∀ i, W.cell? ⟨0, i, none⟩ = cs0.toList[i]? := fun i => by rw [World.var?_cell hg0 hv0 i]; simp
  generalize cs0.toList = vs at hlen hel hcell
  match vs, hlen with
  | [a, b, c], _ =>
    match xs, hn3 with
    | [x0, x1, x2], _ =>
      have h0 := hel 0 (by decide)
      have h1 := hel 1 (by decide)
      have h2 := hel 2 (by decide)
      rw [c1] at h0 h1 h2
      obtain ⟨k0, e0, f0, _⟩ := DataW.trod_int Tryz.underlying3 (show DataW.trod _ Tryz.prog W 0 _ false m1 3 [a] = some x0 from h0)
      obtain ⟨k1, e1, f1, _⟩ := DataW.trod_int Tryz.underlying3 (show DataW.trod _ Tryz.prog W 0 _ false m1 3 [b] = some x1 from h1)
      obtain ⟨k2, e2, f2, _⟩ := DataW.trod_int Tryz.underlying3 (show DataW.trod _ Tryz.prog W 0 _ false m1 3 [c] = some x2 from h2)
      subst f0 f1 f2
      simp only [Prod.mk.injEq, List.map_cons, List.map_nil] at hx1
      have hx := hx1.1
      unfold Rows.laid_ragpicker_class_words at hx
      injection hx with hx
      simp only [List.cons.injEq, DataW.lit.injEq, Lit.int.injEq, true_and, and_true] at hx e0 e1 e2
      obtain ⟨rfl, rfl, rfl⟩ := hx
      subst e0 e1 e2
      intro g xs hgx
      have hs : g = 0 ∧ xs = [Abs.DV.int 2, Abs.DV.int 4, Abs.DV.int 8] := by
        have : Abs.look none (Abs.gls.map fun (i, x) => (i, some x)) g = some xs := hgx
        simp only [Abs.gls, List.map_cons, List.map_nil, Abs.look] at this
        cases hb : Nat.beq 0 g with
        | false => rw [hb] at this; cases this
        | true =>
          rw [hb] at this
          exact ⟨(Nat.eq_of_beq_eq_true hb).symm, by injection this with e; exact e.symm⟩
      obtain ⟨rfl, rfl⟩ := hs
      refine .rp _ _ [.int .i64 2, .int .i64 4, .int .i64 8] (fun _ ho => ?_) rfl rfl (fun i x v hx hv => ?_) fun j v hv => ?_
      · rcases ho with ⟨b, hb⟩ | hb
        · exact hb.elim
        · exact hb.elim
      · match i, hx, hv with
        | 0, hx, hv => cases hx; cases hv; exact .lit _ rfl
        | 1, hx, hv => cases hx; cases hv; exact .lit _ rfl
        | 2, hx, hv => cases hx; cases hv; exact .lit _ rfl
        | _ + 3, hx, hv => cases hx
      · show W.cell? ⟨0, 0 + j, none⟩ = some v
        rw [Nat.zero_add, hcell]
        exact hv
end Go.Proofs.YtpkngagppfoccaaGreatDoor
