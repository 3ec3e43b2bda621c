/- What the laws of this seat share: the types of their arguments, read. -/
import Derived.Test.YtpkngagppfoccaaGreatDoorRows
import Derived.Test.YtpkngagppfoccaaGreatDoorAbsLaw1
import Derived.Below
import Derived.Carry
import Derived.SizedLaws
set_option linter.all false
set_option linter.unusedVariables false
set_option maxRecDepth 100000
namespace Go.Proofs.YtpkngagppfoccaaGreatDoor
open Go.ChangeShapes Go.WideShapes Go.ChangeAt Go.RowKit

theorem okWideArr {P : Program} {w : World} {r : Reach} {base n e : Nat} {t : TypeId} {v : Value} (ht : P.underlying t = some (.array n e)) (h : Value.okWide P w r base t v) : ∃ cs, v = .agg cs := by
  simp only [Value.okWide, ht] at h
  obtain ⟨cs, h1, _⟩ := h
  exact ⟨cs, h1⟩

theorem own : ownKnob Tryz.prog.godebug = none := by kernel_rfl
theorem laidOut : laidOutB Tryz.prog = true := by kernel_rfl

theorem rdColw (w : World) : Abs.Rd Tryz.prog w 30 (fun cs => ∃ y : Abs.Col, Abs.RepL Abs.no w y.enc cs ∧ y.fits) :=
  Abs.Rd.colI (X := Abs.X) Abs.X_ok (t := 30) (b := 4) (i := 3) (sl := 22) rfl rfl rfl rfl rfl rfl rfl rfl rfl rfl rfl rfl

theorem rdCol (w : World) : Abs.Rd Tryz.prog w 30 (fun cs => ∃ y : Abs.Col, Abs.RepL Abs.no w y.enc cs) := (rdColw w).mono fun _ ⟨y, h, _⟩ => ⟨y, h⟩

theorem rdLists (w : World) : Abs.Rd Tryz.prog w 25 (fun cs => ∃ y : Abs.Lists, Abs.RepL Abs.no w (Abs.EK.lists.enc y) cs) :=
  Abs.Rd.listsX (X := Abs.X) Abs.X_ok (t := 25) (e := 22) (i := 3) rfl rfl rfl rfl rfl rfl rfl rfl rfl

theorem rdListsS (w : World) : Abs.Rd Tryz.prog w 48 (fun cs => ∃ (l : List Abs.Lists) (v : Value), cs = [v] ∧ Abs.Rep Abs.no w (.sl .lists l) v) :=
  Abs.Rd.sliceX (X := Abs.X) Abs.X_ok .lists (t := 48) (e := 25) rfl rfl rfl rfl (rdLists w)

abbrev isThreadsS (y : Abs.TV) : Prop := ∃ z : List Abs.Thread, y = .c (.d (.sl .thread z))
abbrev isListsS (y : Abs.TV) : Prop := ∃ z : List Abs.Lists, y = .c (.d (.sl .lists z))
abbrev isLists (y : Abs.TV) : Prop := ∃ z : Abs.Lists, y = .dagg (Abs.EK.lists.enc z)
abbrev isInts (y : Abs.TV) : Prop := ∃ z : List Int, y = .c (.d (.sl .int z))
abbrev isThread (y : Abs.TV) : Prop := ∃ z : Abs.Thread, y = .dagg (Abs.EK.thread.enc z)
abbrev isCol (y : Abs.TV) : Prop := ∃ z : Abs.Col, y = .dagg z.enc
abbrev isInt (y : Abs.TV) : Prop := ∃ n : Int, y = .c (.d (.int n)) ∧ (Lit.int .i64 n).wf = true

theorem opnLists : Abs.Opn Tryz.prog 25 isLists := Abs.Opn.arr Tryz.underlying25 (fun W base v hv => okWideArr Tryz.underlying25 hv) rdLists
theorem opnInts : Abs.Opn Tryz.prog 22 isInts := Abs.Opn.slice .int Tryz.underlying22 fun w => Abs.Rd.ints (X := Abs.X) Abs.X_ok rfl rfl rfl rfl rfl
theorem opnListsS : Abs.Opn Tryz.prog 48 isListsS := Abs.Opn.slice .lists Tryz.underlying48 rdListsS
abbrev isColw (y : Abs.TV) : Prop := ∃ z : Abs.Col, y = .dagg z.enc ∧ z.fits
theorem opnColw : Abs.Opn Tryz.prog 30 isColw := Abs.Opn.aggP Tryz.underlying30 rdColw
theorem opnCol : Abs.Opn Tryz.prog 30 isCol := Abs.Opn.agg Tryz.underlying30 rdCol
theorem opnInt : Abs.Opn Tryz.prog 3 isInt := Abs.Opn.int Tryz.underlying3

abbrev isBool (y : Abs.TV) : Prop := ∃ b : Bool, y = .c (.d (.bo b))
theorem opnBool : Abs.Opn Tryz.prog 4 isBool := Abs.Opn.bool Tryz.underlying4
theorem rdHeap (w : World) : Abs.Rd Tryz.prog w 28 (fun cs => ∃ y : Abs.Hp, Abs.RepL Abs.no w y.enc cs ∧ ∀ x ∈ y.w, Abs.I64 x) :=
  Abs.Rd.hpX (X := Abs.X) Abs.X_ok (t := 28) (sl := 22) (sp := 23) (l := 25) (sb := 26) (i := 3) (b := 4) (p := 52)
    ⟨rfl, rfl, rfl, rfl, rfl, rfl, rfl, rfl, rfl, rfl, rfl, rfl, rfl, rfl, rfl, rfl, rfl, rfl, rfl, rfl, rfl, rfl, rfl, rfl, rfl, rfl⟩
theorem rdHead (w : World) : Abs.Rd Tryz.prog w 41 (fun cs => ∃ y : Abs.Hd, Abs.RepL Abs.no w y.enc cs) :=
  Abs.Rd.headX (X := Abs.X) Abs.X_ok (t := 41) (b := 4) (i := 3) rfl rfl rfl rfl rfl rfl rfl rfl
abbrev isHeap (y : Abs.TV) : Prop := ∃ z : Abs.Hp, y = .dagg z.enc ∧ ∀ x ∈ z.w, Abs.I64 x
abbrev isHead (y : Abs.TV) : Prop := ∃ z : Abs.Hd, y = .dagg z.enc
theorem opnHeap : Abs.Opn Tryz.prog 28 isHeap := Abs.Opn.aggP Tryz.underlying28 rdHeap
theorem opnHead : Abs.Opn Tryz.prog 41 isHead := Abs.Opn.agg Tryz.underlying41 rdHead

end Go.Proofs.YtpkngagppfoccaaGreatDoor
