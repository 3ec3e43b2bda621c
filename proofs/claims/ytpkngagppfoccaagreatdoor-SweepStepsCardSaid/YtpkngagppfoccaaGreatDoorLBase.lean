/- What the laws of this seat share: the types of their arguments, read. -/
import Derived.Test.YtpkngagppfoccaaGreatDoorRows
import Derived.Test.YtpkngagppfoccaaGreatDoorAbsLaw1
import Derived.Below
import Derived.Carry
import Derived.SizedLaws
set_option linter.all false
set_option linter.unusedVariables false
set_option maxRecDepth 100000
namespace Go.Proofs.YtpkngagppfoccaaGreatDoor
open Go.ChangeShapes Go.WideShapes Go.ChangeAt Go.RowKit

theorem own : ownKnob Tryz.prog.godebug = none := by kernel_rfl
theorem laidOut : laidOutB Tryz.prog = true := by kernel_rfl

theorem rdColw (w : World) : Abs.Rd Tryz.prog w 30 (fun cs => ∃ y : Abs.Col, Abs.RepL Abs.no w y.enc cs ∧ y.fits) :=
  Abs.Rd.colI (X := Abs.X) Abs.X_ok (t := 30) (b := 4) (i := 3) (sl := 22) rfl rfl rfl rfl rfl rfl rfl rfl rfl rfl rfl rfl

theorem rdCol (w : World) : Abs.Rd Tryz.prog w 30 (fun cs => ∃ y : Abs.Col, Abs.RepL Abs.no w y.enc cs) := (rdColw w).mono fun _ ⟨y, h, _⟩ => ⟨y, h⟩

abbrev isCol (y : Abs.TV) : Prop := ∃ z : Abs.Col, y = .dagg z.enc
abbrev isInt (y : Abs.TV) : Prop := ∃ n : Int, y = .c (.d (.int n)) ∧ (Lit.int .i64 n).wf = true

theorem opnCol : Abs.Opn Tryz.prog 30 isCol := Abs.Opn.agg Tryz.underlying30 rdCol
theorem opnInt : Abs.Opn Tryz.prog 3 isInt := Abs.Opn.int Tryz.underlying3

theorem rdHeap (w : World) : Abs.Rd Tryz.prog w 28 (fun cs => ∃ y : Abs.Hp, Abs.RepL Abs.no w y.enc cs ∧ ∀ x ∈ y.w, Abs.I64 x) :=
  Abs.Rd.hpX (X := Abs.X) Abs.X_ok (t := 28) (sl := 22) (sp := 23) (l := 25) (sb := 26) (i := 3) (b := 4) (p := 52)
    ⟨rfl, rfl, rfl, rfl, rfl, rfl, rfl, rfl, rfl, rfl, rfl, rfl, rfl, rfl, rfl, rfl, rfl, rfl, rfl, rfl, rfl, rfl, rfl, rfl, rfl, rfl⟩
abbrev isHeap (y : Abs.TV) : Prop := ∃ z : Abs.Hp, y = .dagg z.enc ∧ ∀ x ∈ z.w, Abs.I64 x
theorem opnHeap : Abs.Opn Tryz.prog 28 isHeap := Abs.Opn.aggP Tryz.underlying28 rdHeap
end Go.Proofs.YtpkngagppfoccaaGreatDoor
