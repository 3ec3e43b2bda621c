/- What the laws of this seat share: the types of their arguments, read. -/
import Derived.Test.YtlknhkocpjjkdaaRows
import Derived.Test.YtlknhkocpjjkdaaAbsLaw2
import Derived.Below
import Derived.Carry
import Derived.SizedLaws
set_option linter.all false
set_option linter.unusedVariables false
namespace Go.Proofs.Ytlknhkocpjjkdaa
open Go.ChangeShapes Go.WideShapes Go.ChangeAt Go.RowKit

theorem own : ownKnob Try.prog.godebug = none := by kernel_rfl
theorem laidOut : laidOutB Try.prog = true := by kernel_rfl

theorem rdThread (w : World) : Abs.Rd Try.prog w 28 (fun cs => ∃ y : Abs.Thread, Abs.RepL Abs.no w (Abs.EK.thread.enc y) cs) :=
  Abs.Rd.threadX (X := Abs.X) Abs.X_ok (t := 28) (b := 4) (r := 22) (i := 3) (l := 25) (o := 26) (op := 69) (e := 23)
    ⟨rfl, rfl, rfl, rfl, rfl, rfl, rfl, rfl, rfl, rfl, rfl, rfl, rfl, rfl, rfl, rfl, rfl, rfl, rfl⟩ rfl rfl rfl rfl rfl rfl

theorem rdCol (w : World) : Abs.Rd Try.prog w 42 (fun cs => ∃ y : Abs.Col, Abs.RepL Abs.no w y.enc cs) :=
  Abs.Rd.colX (X := Abs.X) Abs.X_ok (t := 42) (b := 4) (i := 3) (sl := 23) rfl rfl rfl rfl rfl rfl rfl rfl rfl rfl rfl rfl

abbrev isThread (y : Abs.TV) : Prop := ∃ z : Abs.Thread, y = .dagg (Abs.EK.thread.enc z)
abbrev isCol (y : Abs.TV) : Prop := ∃ z : Abs.Col, y = .dagg z.enc
abbrev isInt (y : Abs.TV) : Prop := ∃ n : Int, y = .c (.d (.int n)) ∧ (Lit.int .i64 n).wf = true

theorem opnThread : Abs.Opn Try.prog 28 isThread := Abs.Opn.agg Try.underlying28 rdThread
theorem opnCol : Abs.Opn Try.prog 42 isCol := Abs.Opn.agg Try.underlying42 rdCol
theorem opnInt : Abs.Opn Try.prog 3 isInt := Abs.Opn.int Try.underlying3

end Go.Proofs.Ytlknhkocpjjkdaa
