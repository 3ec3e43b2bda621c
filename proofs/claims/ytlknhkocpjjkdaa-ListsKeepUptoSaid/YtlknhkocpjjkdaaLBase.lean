/- What the laws of this seat share: the types of their arguments, read. -/
import Derived.Test.YtlknhkocpjjkdaaRows
import Derived.Test.YtlknhkocpjjkdaaAbsLaw
import Derived.Below
import Derived.Carry
import Derived.SizedLaws
set_option linter.all false
set_option linter.unusedVariables false
namespace Go.Proofs.Ytlknhkocpjjkdaa
open Go.ChangeShapes Go.WideShapes Go.ChangeAt Go.RowKit

theorem okWideArr {P : Program} {w : World} {r : Reach} {base n e : Nat} {t : TypeId} {v : Value} (ht : P.underlying t = some (.array n e)) (h : Value.okWide P w r base t v) : ∃ cs, v = .agg cs := by
  simp only [Value.okWide, ht] at h
  obtain ⟨cs, h1, _⟩ := h
  exact ⟨cs, h1⟩

theorem own : ownKnob Try.prog.godebug = none := by kernel_rfl
theorem laidOut : laidOutB Try.prog = true := by kernel_rfl

theorem rdThread (w : World) : Abs.Rd Try.prog w 28 (fun cs => ∃ y : Abs.Thread, Abs.RepL Abs.no w (Abs.EK.thread.enc y) cs) :=
  Abs.Rd.threadX (X := Abs.X) Abs.X_ok (t := 28) (b := 4) (r := 22) (i := 3) (l := 25) (o := 26) (op := 69) (e := 23)
    ⟨rfl, rfl, rfl, rfl, rfl, rfl, rfl, rfl, rfl, rfl, rfl, rfl, rfl, rfl, rfl, rfl, rfl, rfl, rfl⟩ rfl rfl rfl rfl rfl rfl

theorem rdCol (w : World) : Abs.Rd Try.prog w 42 (fun cs => ∃ y : Abs.Col, Abs.RepL Abs.no w y.enc cs) :=
  Abs.Rd.colX (X := Abs.X) Abs.X_ok (t := 42) (b := 4) (i := 3) (sl := 23) rfl rfl rfl rfl rfl rfl rfl rfl rfl rfl rfl rfl

theorem rdLists (w : World) : Abs.Rd Try.prog w 25 (fun cs => ∃ y : Abs.Lists, Abs.RepL Abs.no w (Abs.EK.lists.enc y) cs) :=
  Abs.Rd.listsX (X := Abs.X) Abs.X_ok (t := 25) (e := 23) (i := 3) rfl rfl rfl rfl rfl rfl rfl rfl rfl

theorem rdListsS (w : World) : Abs.Rd Try.prog w 44 (fun cs => ∃ (l : List Abs.Lists) (v : Value), cs = [v] ∧ Abs.Rep Abs.no w (.sl .lists l) v) :=
  Abs.Rd.sliceX (X := Abs.X) Abs.X_ok .lists (t := 44) (e := 25) rfl rfl rfl rfl (rdLists w)

abbrev isListsS (y : Abs.TV) : Prop := ∃ z : List Abs.Lists, y = .c (.d (.sl .lists z))
abbrev isLists (y : Abs.TV) : Prop := ∃ z : Abs.Lists, y = .dagg (Abs.EK.lists.enc z)
abbrev isInts (y : Abs.TV) : Prop := ∃ z : List Int, y = .c (.d (.sl .int z))
abbrev isThread (y : Abs.TV) : Prop := ∃ z : Abs.Thread, y = .dagg (Abs.EK.thread.enc z)
abbrev isCol (y : Abs.TV) : Prop := ∃ z : Abs.Col, y = .dagg z.enc
abbrev isInt (y : Abs.TV) : Prop := ∃ n : Int, y = .c (.d (.int n)) ∧ (Lit.int .i64 n).wf = true

theorem opnThread : Abs.Opn Try.prog 28 isThread := Abs.Opn.agg Try.underlying28 rdThread
theorem opnLists : Abs.Opn Try.prog 25 isLists := Abs.Opn.arr Try.underlying25 (fun W base v hv => okWideArr Try.underlying25 hv) rdLists
theorem opnInts : Abs.Opn Try.prog 23 isInts := Abs.Opn.slice .int Try.underlying23 fun w => Abs.Rd.ints (X := Abs.X) Abs.X_ok rfl rfl rfl rfl rfl
theorem opnListsS : Abs.Opn Try.prog 44 isListsS := Abs.Opn.slice .lists Try.underlying44 rdListsS
theorem opnCol : Abs.Opn Try.prog 42 isCol := Abs.Opn.agg Try.underlying42 rdCol
theorem opnInt : Abs.Opn Try.prog 3 isInt := Abs.Opn.int Try.underlying3

end Go.Proofs.Ytlknhkocpjjkdaa
