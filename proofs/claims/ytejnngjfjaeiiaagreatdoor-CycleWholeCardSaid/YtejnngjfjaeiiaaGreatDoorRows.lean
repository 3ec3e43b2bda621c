/-
  NARROWER THAN 'FOR EVERY INPUT', by the rows' own cells (each row's printed sentence says how): CycleOrder: laid · CycleEnds: laid · CycleIdle: laid · CycleWhole: laid · TopEmpty: laid · TopEpoch: laid · TopAnswers: laid · TopWhite: laid.
  DERIVED. THE GIVEN ROWS OF THIS SEAT. 8 by the template 'for every input the law returns true; each argument reads behind the call as it read before'; 0 by the template 'total and deterministic' (their statements: YtejnngjfjaeiiaaGreatDoorTotals.lean).
  GIVEN WITH THE SEED: the statements are not yours to turn. If you find one false, say at which input.
  Laid BY PROGRAM, IN A SANDBOX (cutbox-rows.mjs): the forced cells as the released guide's own fill.sh prints them over the translation 5f16e3cb74bd274d… (all of the seat's roots in one cut). By AI agents, Wed Nov 11 2026. No macro, syntax, notation, axiom, sorry.
-/
import Derived.Test.YtejnngjfjaeiiaaGreatDoorChecked
import GoSem.Claim
import GoSem.ClaimJoined
import GoSem.ClaimMapViews
import Derived.JoinedTies
import Derived.KernelRfl
namespace Go.Proofs.YtejnngjfjaeiiaaGreatDoor
/- THE CELL 'sum', in the pinned program and in every row, IS THE sha256 OF THE DUMP (.gsa) THAT YtejnngjfjaeiiaaGreatDoorProg.lean LOADS. Nothing in Lean hashes anything: it is a label: what it is worth is what the hold of that sum in a sandbox is worth. -/
noncomputable def Tryz.pinned : Pinned := { name := "ytejnngjfjaeiiaagreatdoor", sum := "5f16e3cb74bd274db4f75042e0950513e797360b4cf34bb7d043cdbf1547620a", checked := Tryz.checked }
namespace Rows
def none {H : Type} : Left H := { results := [], args := [] }

/- WHAT THE LISTED PACKAGE-LEVEL VARIABLES READ AS WHEN THE CALL BEGINS. Each datum BY PROGRAM (the guide's laid-datum.mjs) off the statement by which the dump's own 'gosem.cut.vars' lays the variable. In a bare row this is a premise. The card (YtejnngjfjaeiiaaGreatDoorCards.lean) ties it to the program's text. -/
def laid_ragpicker_class_words {H : Type} : DataW H := .agg [.lit (.int .i64 2), .lit (.int .i64 4), .lit (.int .i64 8)]

/-- 'ragpickerlaw19.CycleOrder': WHATEVER THE INPUT: true; the input reads as it did. -/
def cycleOrderSpec : ChangeSpec := { name := "cycleOrder", fn := fun _ => fun
  | [d1, d2, d3] => { results := [.lit (.bool true)], args := [d1, d2, d3] }
  | _ => none }
def cycleOrderRow : OpenClaim := { program := "ytejnngjfjaeiiaagreatdoor", sum := "5f16e3cb74bd274db4f75042e0950513e797360b4cf34bb7d043cdbf1547620a", func := "ragpicker/ragpickerlaw19.CycleOrder", spec := "cycleOrder", unfollowed := true, recurses := true, named := ["ragpicker/class.words"], apart := false, laid := [("ragpicker/class.words", laid_ragpicker_class_words)] }
def CycleOrderSaid : Prop := cycleOrderRow.holds Tryz.pinned (OpenSpec.ofChange cycleOrderSpec)

/-- ITS FALSE NEIGHBOUR: 'it returns false'. Refute it at one input. -/
def cycleOrderWrong : ChangeSpec := { name := "cycleOrder", fn := fun _ => fun
  | [d1, d2, d3] => { results := [.lit (.bool false)], args := [d1, d2, d3] }
  | _ => none }
def CycleOrderWrongFalsely : Prop := cycleOrderRow.holds Tryz.pinned (OpenSpec.ofChange cycleOrderWrong)

/-- 'ragpickerlaw19.CycleEnds': WHATEVER THE INPUT: true; the input reads as it did. -/
def cycleEndsSpec : ChangeSpec := { name := "cycleEnds", fn := fun _ => fun
  | [d1, d2, d3] => { results := [.lit (.bool true)], args := [d1, d2, d3] }
  | _ => none }
def cycleEndsRow : OpenClaim := { program := "ytejnngjfjaeiiaagreatdoor", sum := "5f16e3cb74bd274db4f75042e0950513e797360b4cf34bb7d043cdbf1547620a", func := "ragpicker/ragpickerlaw19.CycleEnds", spec := "cycleEnds", unfollowed := true, recurses := true, named := ["ragpicker/class.words"], apart := false, laid := [("ragpicker/class.words", laid_ragpicker_class_words)] }
def CycleEndsSaid : Prop := cycleEndsRow.holds Tryz.pinned (OpenSpec.ofChange cycleEndsSpec)

/-- ITS FALSE NEIGHBOUR: 'it returns false'. Refute it at one input. -/
def cycleEndsWrong : ChangeSpec := { name := "cycleEnds", fn := fun _ => fun
  | [d1, d2, d3] => { results := [.lit (.bool false)], args := [d1, d2, d3] }
  | _ => none }
def CycleEndsWrongFalsely : Prop := cycleEndsRow.holds Tryz.pinned (OpenSpec.ofChange cycleEndsWrong)

/-- 'ragpickerlaw19.CycleIdle': WHATEVER THE INPUT: true; the input reads as it did. -/
def cycleIdleSpec : ChangeSpec := { name := "cycleIdle", fn := fun _ => fun
  | [d1, d2, d3, d4] => { results := [.lit (.bool true)], args := [d1, d2, d3, d4] }
  | _ => none }
def cycleIdleRow : OpenClaim := { program := "ytejnngjfjaeiiaagreatdoor", sum := "5f16e3cb74bd274db4f75042e0950513e797360b4cf34bb7d043cdbf1547620a", func := "ragpicker/ragpickerlaw19.CycleIdle", spec := "cycleIdle", unfollowed := true, recurses := true, named := ["ragpicker/class.words"], apart := false, laid := [("ragpicker/class.words", laid_ragpicker_class_words)] }
def CycleIdleSaid : Prop := cycleIdleRow.holds Tryz.pinned (OpenSpec.ofChange cycleIdleSpec)

/-- ITS FALSE NEIGHBOUR: 'it returns false'. Refute it at one input. -/
def cycleIdleWrong : ChangeSpec := { name := "cycleIdle", fn := fun _ => fun
  | [d1, d2, d3, d4] => { results := [.lit (.bool false)], args := [d1, d2, d3, d4] }
  | _ => none }
def CycleIdleWrongFalsely : Prop := cycleIdleRow.holds Tryz.pinned (OpenSpec.ofChange cycleIdleWrong)

/-- 'ragpickerlaw19.CycleWhole': WHATEVER THE INPUT: true; the input reads as it did. -/
def cycleWholeSpec : ChangeSpec := { name := "cycleWhole", fn := fun _ => fun
  | [d1, d2, d3, d4] => { results := [.lit (.bool true)], args := [d1, d2, d3, d4] }
  | _ => none }
def cycleWholeRow : OpenClaim := { program := "ytejnngjfjaeiiaagreatdoor", sum := "5f16e3cb74bd274db4f75042e0950513e797360b4cf34bb7d043cdbf1547620a", func := "ragpicker/ragpickerlaw19.CycleWhole", spec := "cycleWhole", unfollowed := true, recurses := true, named := ["ragpicker/class.words"], apart := false, laid := [("ragpicker/class.words", laid_ragpicker_class_words)] }
def CycleWholeSaid : Prop := cycleWholeRow.holds Tryz.pinned (OpenSpec.ofChange cycleWholeSpec)

/-- ITS FALSE NEIGHBOUR: 'it returns false'. Refute it at one input. -/
def cycleWholeWrong : ChangeSpec := { name := "cycleWhole", fn := fun _ => fun
  | [d1, d2, d3, d4] => { results := [.lit (.bool false)], args := [d1, d2, d3, d4] }
  | _ => none }
def CycleWholeWrongFalsely : Prop := cycleWholeRow.holds Tryz.pinned (OpenSpec.ofChange cycleWholeWrong)

/-- 'ragpickertop.TopEmpty': WHATEVER THE INPUT: true; the input reads as it did. -/
def topEmptySpec : ChangeSpec := { name := "topEmpty", fn := fun _ => fun
  | [d1, d2, d3] => { results := [.lit (.bool true)], args := [d1, d2, d3] }
  | _ => none }
def topEmptyRow : OpenClaim := { program := "ytejnngjfjaeiiaagreatdoor", sum := "5f16e3cb74bd274db4f75042e0950513e797360b4cf34bb7d043cdbf1547620a", func := "ragpicker/ragpickertop.TopEmpty", spec := "topEmpty", unfollowed := true, recurses := true, named := ["ragpicker/class.words"], apart := false, laid := [("ragpicker/class.words", laid_ragpicker_class_words)] }
def TopEmptySaid : Prop := topEmptyRow.holds Tryz.pinned (OpenSpec.ofChange topEmptySpec)

/-- ITS FALSE NEIGHBOUR: 'it returns false'. Refute it at one input. -/
def topEmptyWrong : ChangeSpec := { name := "topEmpty", fn := fun _ => fun
  | [d1, d2, d3] => { results := [.lit (.bool false)], args := [d1, d2, d3] }
  | _ => none }
def TopEmptyWrongFalsely : Prop := topEmptyRow.holds Tryz.pinned (OpenSpec.ofChange topEmptyWrong)

/-- 'ragpickertop.TopEpoch': WHATEVER THE INPUT: true; the input reads as it did. -/
def topEpochSpec : ChangeSpec := { name := "topEpoch", fn := fun _ => fun
  | [d1, d2, d3] => { results := [.lit (.bool true)], args := [d1, d2, d3] }
  | _ => none }
def topEpochRow : OpenClaim := { program := "ytejnngjfjaeiiaagreatdoor", sum := "5f16e3cb74bd274db4f75042e0950513e797360b4cf34bb7d043cdbf1547620a", func := "ragpicker/ragpickertop.TopEpoch", spec := "topEpoch", unfollowed := true, recurses := true, named := ["ragpicker/class.words"], apart := false, laid := [("ragpicker/class.words", laid_ragpicker_class_words)] }
def TopEpochSaid : Prop := topEpochRow.holds Tryz.pinned (OpenSpec.ofChange topEpochSpec)

/-- ITS FALSE NEIGHBOUR: 'it returns false'. Refute it at one input. -/
def topEpochWrong : ChangeSpec := { name := "topEpoch", fn := fun _ => fun
  | [d1, d2, d3] => { results := [.lit (.bool false)], args := [d1, d2, d3] }
  | _ => none }
def TopEpochWrongFalsely : Prop := topEpochRow.holds Tryz.pinned (OpenSpec.ofChange topEpochWrong)

/-- 'ragpickertop.TopAnswers': WHATEVER THE INPUT: true; the input reads as it did. -/
def topAnswersSpec : ChangeSpec := { name := "topAnswers", fn := fun _ => fun
  | [d1, d2, d3] => { results := [.lit (.bool true)], args := [d1, d2, d3] }
  | _ => none }
def topAnswersRow : OpenClaim := { program := "ytejnngjfjaeiiaagreatdoor", sum := "5f16e3cb74bd274db4f75042e0950513e797360b4cf34bb7d043cdbf1547620a", func := "ragpicker/ragpickertop.TopAnswers", spec := "topAnswers", unfollowed := true, recurses := true, named := ["ragpicker/class.words"], apart := false, laid := [("ragpicker/class.words", laid_ragpicker_class_words)] }
def TopAnswersSaid : Prop := topAnswersRow.holds Tryz.pinned (OpenSpec.ofChange topAnswersSpec)

/-- ITS FALSE NEIGHBOUR: 'it returns false'. Refute it at one input. -/
def topAnswersWrong : ChangeSpec := { name := "topAnswers", fn := fun _ => fun
  | [d1, d2, d3] => { results := [.lit (.bool false)], args := [d1, d2, d3] }
  | _ => none }
def TopAnswersWrongFalsely : Prop := topAnswersRow.holds Tryz.pinned (OpenSpec.ofChange topAnswersWrong)

/-- 'ragpickertop.TopWhite': WHATEVER THE INPUT: true; the input reads as it did. -/
def topWhiteSpec : ChangeSpec := { name := "topWhite", fn := fun _ => fun
  | [d1, d2, d3] => { results := [.lit (.bool true)], args := [d1, d2, d3] }
  | _ => none }
def topWhiteRow : OpenClaim := { program := "ytejnngjfjaeiiaagreatdoor", sum := "5f16e3cb74bd274db4f75042e0950513e797360b4cf34bb7d043cdbf1547620a", func := "ragpicker/ragpickertop.TopWhite", spec := "topWhite", unfollowed := true, recurses := true, named := ["ragpicker/class.words"], apart := false, laid := [("ragpicker/class.words", laid_ragpicker_class_words)] }
def TopWhiteSaid : Prop := topWhiteRow.holds Tryz.pinned (OpenSpec.ofChange topWhiteSpec)

/-- ITS FALSE NEIGHBOUR: 'it returns false'. Refute it at one input. -/
def topWhiteWrong : ChangeSpec := { name := "topWhite", fn := fun _ => fun
  | [d1, d2, d3] => { results := [.lit (.bool false)], args := [d1, d2, d3] }
  | _ => none }
def TopWhiteWrongFalsely : Prop := topWhiteRow.holds Tryz.pinned (OpenSpec.ofChange topWhiteWrong)

/- THE SECOND FORM. 'bulk': how many values and letters a reading holds, each counted each time it is reached (what is shared counts as often as it is met; a slice's spare places count too). A statement '..UptoSaid' is the law's where the arguments, and the package variables that the reading takes, are together of bulk at most 1048576: NARROWER than '..Said'. Prove '..Said' where nothing that the law and all that it calls make is longer than what came in: it says more and counts as full. Else prove '..UptoSaid'. A law counts once. -/
mutual
def uptoBulk {H : Type} : DataW H → Nat
  | .lit (.string bytes) => bytes.length + 1
  | .lit _ => 1
  | .nil => 1
  | .ptr d => uptoBulk d + 1
  | .slice elems spare => uptoBulkAll elems + uptoBulkAll spare + 1
  | .agg parts => uptoBulkAll parts + 1
  | .iface _ d => uptoBulk d + 1
  | .map entries => uptoBulkEntries entries + 1
  | .held _ => 1
def uptoBulkAll {H : Type} : List (DataW H) → Nat
  | [] => 0
  | d :: r => uptoBulk d + uptoBulkAll r
def uptoBulkEntries {H : Type} : List (Lit × DataW H) → Nat
  | [] => 0
  | x :: r => uptoBulkEntry x + uptoBulkEntries r
def uptoBulkEntry {H : Type} : Lit × DataW H → Nat
  | (.string bytes, d) => bytes.length + uptoBulk d + 1
  | (_, d) => uptoBulk d + 1
 end
def uptoSmall : (H : Type) → List (DataW H) → Bool := fun _ ds => decide (uptoBulkAll ds ≤ 1048576)
def OpenSpec.upto (s : _root_.Go.ChangeSpec) : _root_.Go.OpenSpec := { _root_.Go.OpenSpec.ofChange s with cond := some uptoSmall }

/-- 'ragpickerlaw19.CycleOrder', WHERE WHAT IT READS IS OF BULK AT MOST 1048576: true; the input reads as it did. -/
def cycleOrderUptoRow : OpenClaim := { program := "ytejnngjfjaeiiaagreatdoor", sum := "5f16e3cb74bd274db4f75042e0950513e797360b4cf34bb7d043cdbf1547620a", func := "ragpicker/ragpickerlaw19.CycleOrder", spec := "cycleOrder", unfollowed := true, recurses := true, named := ["ragpicker/class.words"], apart := false, laid := [("ragpicker/class.words", laid_ragpicker_class_words)], narrowed := true }
def CycleOrderUptoSaid : Prop := cycleOrderUptoRow.holds Tryz.pinned (OpenSpec.upto cycleOrderSpec)

/-- 'ragpickerlaw19.CycleEnds', WHERE WHAT IT READS IS OF BULK AT MOST 1048576: true; the input reads as it did. -/
def cycleEndsUptoRow : OpenClaim := { program := "ytejnngjfjaeiiaagreatdoor", sum := "5f16e3cb74bd274db4f75042e0950513e797360b4cf34bb7d043cdbf1547620a", func := "ragpicker/ragpickerlaw19.CycleEnds", spec := "cycleEnds", unfollowed := true, recurses := true, named := ["ragpicker/class.words"], apart := false, laid := [("ragpicker/class.words", laid_ragpicker_class_words)], narrowed := true }
def CycleEndsUptoSaid : Prop := cycleEndsUptoRow.holds Tryz.pinned (OpenSpec.upto cycleEndsSpec)

/-- 'ragpickerlaw19.CycleIdle', WHERE WHAT IT READS IS OF BULK AT MOST 1048576: true; the input reads as it did. -/
def cycleIdleUptoRow : OpenClaim := { program := "ytejnngjfjaeiiaagreatdoor", sum := "5f16e3cb74bd274db4f75042e0950513e797360b4cf34bb7d043cdbf1547620a", func := "ragpicker/ragpickerlaw19.CycleIdle", spec := "cycleIdle", unfollowed := true, recurses := true, named := ["ragpicker/class.words"], apart := false, laid := [("ragpicker/class.words", laid_ragpicker_class_words)], narrowed := true }
def CycleIdleUptoSaid : Prop := cycleIdleUptoRow.holds Tryz.pinned (OpenSpec.upto cycleIdleSpec)

/-- 'ragpickerlaw19.CycleWhole', WHERE WHAT IT READS IS OF BULK AT MOST 1048576: true; the input reads as it did. -/
def cycleWholeUptoRow : OpenClaim := { program := "ytejnngjfjaeiiaagreatdoor", sum := "5f16e3cb74bd274db4f75042e0950513e797360b4cf34bb7d043cdbf1547620a", func := "ragpicker/ragpickerlaw19.CycleWhole", spec := "cycleWhole", unfollowed := true, recurses := true, named := ["ragpicker/class.words"], apart := false, laid := [("ragpicker/class.words", laid_ragpicker_class_words)], narrowed := true }
def CycleWholeUptoSaid : Prop := cycleWholeUptoRow.holds Tryz.pinned (OpenSpec.upto cycleWholeSpec)

/-- 'ragpickertop.TopEmpty', WHERE WHAT IT READS IS OF BULK AT MOST 1048576: true; the input reads as it did. -/
def topEmptyUptoRow : OpenClaim := { program := "ytejnngjfjaeiiaagreatdoor", sum := "5f16e3cb74bd274db4f75042e0950513e797360b4cf34bb7d043cdbf1547620a", func := "ragpicker/ragpickertop.TopEmpty", spec := "topEmpty", unfollowed := true, recurses := true, named := ["ragpicker/class.words"], apart := false, laid := [("ragpicker/class.words", laid_ragpicker_class_words)], narrowed := true }
def TopEmptyUptoSaid : Prop := topEmptyUptoRow.holds Tryz.pinned (OpenSpec.upto topEmptySpec)

/-- 'ragpickertop.TopEpoch', WHERE WHAT IT READS IS OF BULK AT MOST 1048576: true; the input reads as it did. -/
def topEpochUptoRow : OpenClaim := { program := "ytejnngjfjaeiiaagreatdoor", sum := "5f16e3cb74bd274db4f75042e0950513e797360b4cf34bb7d043cdbf1547620a", func := "ragpicker/ragpickertop.TopEpoch", spec := "topEpoch", unfollowed := true, recurses := true, named := ["ragpicker/class.words"], apart := false, laid := [("ragpicker/class.words", laid_ragpicker_class_words)], narrowed := true }
def TopEpochUptoSaid : Prop := topEpochUptoRow.holds Tryz.pinned (OpenSpec.upto topEpochSpec)

/-- 'ragpickertop.TopAnswers', WHERE WHAT IT READS IS OF BULK AT MOST 1048576: true; the input reads as it did. -/
def topAnswersUptoRow : OpenClaim := { program := "ytejnngjfjaeiiaagreatdoor", sum := "5f16e3cb74bd274db4f75042e0950513e797360b4cf34bb7d043cdbf1547620a", func := "ragpicker/ragpickertop.TopAnswers", spec := "topAnswers", unfollowed := true, recurses := true, named := ["ragpicker/class.words"], apart := false, laid := [("ragpicker/class.words", laid_ragpicker_class_words)], narrowed := true }
def TopAnswersUptoSaid : Prop := topAnswersUptoRow.holds Tryz.pinned (OpenSpec.upto topAnswersSpec)

/-- 'ragpickertop.TopWhite', WHERE WHAT IT READS IS OF BULK AT MOST 1048576: true; the input reads as it did. -/
def topWhiteUptoRow : OpenClaim := { program := "ytejnngjfjaeiiaagreatdoor", sum := "5f16e3cb74bd274db4f75042e0950513e797360b4cf34bb7d043cdbf1547620a", func := "ragpicker/ragpickertop.TopWhite", spec := "topWhite", unfollowed := true, recurses := true, named := ["ragpicker/class.words"], apart := false, laid := [("ragpicker/class.words", laid_ragpicker_class_words)], narrowed := true }
def TopWhiteUptoSaid : Prop := topWhiteUptoRow.holds Tryz.pinned (OpenSpec.upto topWhiteSpec)

end Rows
end Go.Proofs.YtejnngjfjaeiiaaGreatDoor
