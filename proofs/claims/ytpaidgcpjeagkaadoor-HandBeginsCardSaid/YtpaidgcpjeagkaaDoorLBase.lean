/- What the laws of this seat share: the types of their arguments, read. -/
import Derived.Test.YtpaidgcpjeagkaaDoorRows
import Derived.Test.YtpaidgcpjeagkaaDoorAbsLaw1
import Derived.Below
import Derived.Carry
import Derived.SizedLaws
set_option linter.all false
set_option linter.unusedVariables false
set_option maxRecDepth 100000
namespace Go.Proofs.YtpaidgcpjeagkaaDoor
open Go.ChangeShapes Go.WideShapes Go.ChangeAt Go.RowKit

theorem okWideArr {P : Program} {w : World} {r : Reach} {base n e : Nat} {t : TypeId} {v : Value} (ht : P.underlying t = some (.array n e)) (h : Value.okWide P w r base t v) : ∃ cs, v = .agg cs := by
  simp only [Value.okWide, ht] at h
  obtain ⟨cs, h1, _⟩ := h
  exact ⟨cs, h1⟩

theorem own : ownKnob Tryd.prog.godebug = none := by kernel_rfl
theorem laidOut : laidOutB Tryd.prog = true := by kernel_rfl

theorem rdThread (w : World) : Abs.Rd Tryd.prog w 33 (fun cs => ∃ y : Abs.Thread, Abs.RepL Abs.no w (Abs.EK.thread.enc y) cs) :=
  Abs.Rd.threadX (X := Abs.X) Abs.X_ok (t := 33) (b := 4) (r := 28) (i := 3) (l := 30) (o := 31) (op := 72) (e := 22)
    ⟨rfl, rfl, rfl, rfl, rfl, rfl, rfl, rfl, rfl, rfl, rfl, rfl, rfl, rfl, rfl, rfl, rfl, rfl, rfl⟩ rfl rfl rfl rfl rfl rfl

theorem rdCol (w : World) : Abs.Rd Tryd.prog w 24 (fun cs => ∃ y : Abs.Col, Abs.RepL Abs.no w y.enc cs) :=
  Abs.Rd.colX (X := Abs.X) Abs.X_ok (t := 24) (b := 4) (i := 3) (sl := 22) rfl rfl rfl rfl rfl rfl rfl rfl rfl rfl rfl rfl

theorem rdLists (w : World) : Abs.Rd Tryd.prog w 30 (fun cs => ∃ y : Abs.Lists, Abs.RepL Abs.no w (Abs.EK.lists.enc y) cs) :=
  Abs.Rd.listsX (X := Abs.X) Abs.X_ok (t := 30) (e := 22) (i := 3) rfl rfl rfl rfl rfl rfl rfl rfl rfl

theorem rdListsS (w : World) : Abs.Rd Tryd.prog w 90 (fun cs => ∃ (l : List Abs.Lists) (v : Value), cs = [v] ∧ Abs.Rep Abs.no w (.sl .lists l) v) :=
  Abs.Rd.sliceX (X := Abs.X) Abs.X_ok .lists (t := 90) (e := 30) rfl rfl rfl rfl (rdLists w)

theorem rdThreadS (w : World) : Abs.Rd Tryd.prog w 25 (fun cs => ∃ (l : List Abs.Thread) (v : Value), cs = [v] ∧ Abs.Rep Abs.no w (.sl .thread l) v) :=
  Abs.Rd.sliceX (X := Abs.X) Abs.X_ok .thread (t := 25) (e := 33) rfl rfl rfl rfl (rdThread w)
abbrev isThreadsS (y : Abs.TV) : Prop := ∃ z : List Abs.Thread, y = .c (.d (.sl .thread z))
theorem opnThreadsS : Abs.Opn Tryd.prog 25 isThreadsS := Abs.Opn.slice .thread Tryd.underlying25 rdThreadS

abbrev isListsS (y : Abs.TV) : Prop := ∃ z : List Abs.Lists, y = .c (.d (.sl .lists z))
abbrev isLists (y : Abs.TV) : Prop := ∃ z : Abs.Lists, y = .dagg (Abs.EK.lists.enc z)
abbrev isInts (y : Abs.TV) : Prop := ∃ z : List Int, y = .c (.d (.sl .int z))
abbrev isThread (y : Abs.TV) : Prop := ∃ z : Abs.Thread, y = .dagg (Abs.EK.thread.enc z)
abbrev isCol (y : Abs.TV) : Prop := ∃ z : Abs.Col, y = .dagg z.enc
abbrev isInt (y : Abs.TV) : Prop := ∃ n : Int, y = .c (.d (.int n)) ∧ (Lit.int .i64 n).wf = true

theorem opnThread : Abs.Opn Tryd.prog 33 isThread := Abs.Opn.agg Tryd.underlying33 rdThread
theorem opnLists : Abs.Opn Tryd.prog 30 isLists := Abs.Opn.arr Tryd.underlying30 (fun W base v hv => okWideArr Tryd.underlying30 hv) rdLists
theorem opnInts : Abs.Opn Tryd.prog 22 isInts := Abs.Opn.slice .int Tryd.underlying22 fun w => Abs.Rd.ints (X := Abs.X) Abs.X_ok rfl rfl rfl rfl rfl
theorem opnListsS : Abs.Opn Tryd.prog 90 isListsS := Abs.Opn.slice .lists Tryd.underlying90 rdListsS
theorem opnCol : Abs.Opn Tryd.prog 24 isCol := Abs.Opn.agg Tryd.underlying24 rdCol
theorem opnInt : Abs.Opn Tryd.prog 3 isInt := Abs.Opn.int Tryd.underlying3

abbrev isBool (y : Abs.TV) : Prop := ∃ b : Bool, y = .c (.d (.bo b))
theorem opnBool : Abs.Opn Tryd.prog 4 isBool := Abs.Opn.bool Tryd.underlying4
theorem rdHeap (w : World) : Abs.Rd Tryd.prog w 38 (fun cs => ∃ y : Abs.Hp, Abs.RepL Abs.no w y.enc cs ∧ ∀ x ∈ y.w, Abs.I64 x) :=
  Abs.Rd.hpX (X := Abs.X) Abs.X_ok (t := 38) (sl := 22) (sp := 35) (l := 30) (sb := 36) (i := 3) (b := 4) (p := 68)
    ⟨rfl, rfl, rfl, rfl, rfl, rfl, rfl, rfl, rfl, rfl, rfl, rfl, rfl, rfl, rfl, rfl, rfl, rfl, rfl, rfl, rfl, rfl, rfl, rfl, rfl, rfl⟩
theorem rdHead (w : World) : Abs.Rd Tryd.prog w 56 (fun cs => ∃ y : Abs.Hd, Abs.RepL Abs.no w y.enc cs) :=
  Abs.Rd.headX (X := Abs.X) Abs.X_ok (t := 56) (b := 4) (i := 3) rfl rfl rfl rfl rfl rfl rfl rfl
abbrev isHeap (y : Abs.TV) : Prop := ∃ z : Abs.Hp, y = .dagg z.enc ∧ ∀ x ∈ z.w, Abs.I64 x
abbrev isHead (y : Abs.TV) : Prop := ∃ z : Abs.Hd, y = .dagg z.enc
theorem opnHeap : Abs.Opn Tryd.prog 38 isHeap := Abs.Opn.aggP Tryd.underlying38 rdHeap
theorem opnHead : Abs.Opn Tryd.prog 56 isHead := Abs.Opn.agg Tryd.underlying56 rdHead

end Go.Proofs.YtpaidgcpjeagkaaDoor
