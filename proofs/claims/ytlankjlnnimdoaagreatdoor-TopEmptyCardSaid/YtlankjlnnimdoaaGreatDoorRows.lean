/-
  NARROWER THAN 'FOR EVERY INPUT', by the rows' own cells (each row's printed sentence says how): TopEmpty: laid · TopEpoch: laid · TopAnswers: laid · TopWhite: laid.
  DERIVED. THE GIVEN ROWS OF THIS SEAT. 4 by the template 'for every input the law returns true; each argument reads behind the call as it read before'; 0 by the template 'total and deterministic' (their statements: YtlankjlnnimdoaaGreatDoorTotals.lean).
  GIVEN WITH THE SEED: the statements are not yours to turn. If you find one false, say at which input.
  Laid BY PROGRAM, IN A SANDBOX (cutbox-rows.mjs): the forced cells as the released guide's own fill.sh prints them over the translation a4a15bbab476b438… (all of the seat's roots in one cut). By AI agents, Wed Nov 11 2026. No macro, syntax, notation, axiom, sorry.
-/
import Derived.Test.YtlankjlnnimdoaaGreatDoorChecked
import GoSem.Claim
import GoSem.ClaimJoined
import GoSem.ClaimMapViews
import Derived.JoinedTies
import Derived.KernelRfl
namespace Go.Proofs.YtlankjlnnimdoaaGreatDoor
/- THE CELL 'sum', in the pinned program and in every row, IS THE sha256 OF THE DUMP (.gsa) THAT YtlankjlnnimdoaaGreatDoorProg.lean LOADS. Nothing in Lean hashes anything: it is a label: what it is worth is what the hold of that sum in a sandbox is worth. -/
noncomputable def Tryz.pinned : Pinned := { name := "ytlankjlnnimdoaagreatdoor", sum := "a4a15bbab476b438e8ac67249f45fb2e3b9200de9c20e45c48f112cac5f5d2df", checked := Tryz.checked }
namespace Rows
def none {H : Type} : Left H := { results := [], args := [] }

/- WHAT THE LISTED PACKAGE-LEVEL VARIABLES READ AS WHEN THE CALL BEGINS. Each datum BY PROGRAM (the guide's laid-datum.mjs) off the statement by which the dump's own 'gosem.cut.vars' lays the variable. In a bare row this is a premise. The card (YtlankjlnnimdoaaGreatDoorCards.lean) ties it to the program's text. -/
def laid_ragpicker_class_words {H : Type} : DataW H := .agg [.lit (.int .i64 2), .lit (.int .i64 4), .lit (.int .i64 8)]

/-- 'ragpickertop.TopEmpty': WHATEVER THE INPUT: true; the input reads as it did. -/
def topEmptySpec : ChangeSpec := { name := "topEmpty", fn := fun _ => fun
  | [d1, d2, d3] => { results := [.lit (.bool true)], args := [d1, d2, d3] }
  | _ => none }
def topEmptyRow : OpenClaim := { program := "ytlankjlnnimdoaagreatdoor", sum := "a4a15bbab476b438e8ac67249f45fb2e3b9200de9c20e45c48f112cac5f5d2df", func := "ragpicker/ragpickertop.TopEmpty", spec := "topEmpty", unfollowed := true, recurses := true, named := ["ragpicker/class.words"], apart := false, laid := [("ragpicker/class.words", laid_ragpicker_class_words)] }
def TopEmptySaid : Prop := topEmptyRow.holds Tryz.pinned (OpenSpec.ofChange topEmptySpec)

/-- ITS FALSE NEIGHBOUR: 'it returns false'. Refute it at one input. -/
def topEmptyWrong : ChangeSpec := { name := "topEmpty", fn := fun _ => fun
  | [d1, d2, d3] => { results := [.lit (.bool false)], args := [d1, d2, d3] }
  | _ => none }
def TopEmptyWrongFalsely : Prop := topEmptyRow.holds Tryz.pinned (OpenSpec.ofChange topEmptyWrong)

/-- 'ragpickertop.TopEpoch': WHATEVER THE INPUT: true; the input reads as it did. -/
def topEpochSpec : ChangeSpec := { name := "topEpoch", fn := fun _ => fun
  | [d1, d2, d3] => { results := [.lit (.bool true)], args := [d1, d2, d3] }
  | _ => none }
def topEpochRow : OpenClaim := { program := "ytlankjlnnimdoaagreatdoor", sum := "a4a15bbab476b438e8ac67249f45fb2e3b9200de9c20e45c48f112cac5f5d2df", func := "ragpicker/ragpickertop.TopEpoch", spec := "topEpoch", unfollowed := true, recurses := true, named := ["ragpicker/class.words"], apart := false, laid := [("ragpicker/class.words", laid_ragpicker_class_words)] }
def TopEpochSaid : Prop := topEpochRow.holds Tryz.pinned (OpenSpec.ofChange topEpochSpec)

/-- ITS FALSE NEIGHBOUR: 'it returns false'. Refute it at one input. -/
def topEpochWrong : ChangeSpec := { name := "topEpoch", fn := fun _ => fun
  | [d1, d2, d3] => { results := [.lit (.bool false)], args := [d1, d2, d3] }
  | _ => none }
def TopEpochWrongFalsely : Prop := topEpochRow.holds Tryz.pinned (OpenSpec.ofChange topEpochWrong)

/-- 'ragpickertop.TopAnswers': WHATEVER THE INPUT: true; the input reads as it did. -/
def topAnswersSpec : ChangeSpec := { name := "topAnswers", fn := fun _ => fun
  | [d1, d2, d3] => { results := [.lit (.bool true)], args := [d1, d2, d3] }
  | _ => none }
def topAnswersRow : OpenClaim := { program := "ytlankjlnnimdoaagreatdoor", sum := "a4a15bbab476b438e8ac67249f45fb2e3b9200de9c20e45c48f112cac5f5d2df", func := "ragpicker/ragpickertop.TopAnswers", spec := "topAnswers", unfollowed := true, recurses := true, named := ["ragpicker/class.words"], apart := false, laid := [("ragpicker/class.words", laid_ragpicker_class_words)] }
def TopAnswersSaid : Prop := topAnswersRow.holds Tryz.pinned (OpenSpec.ofChange topAnswersSpec)

/-- ITS FALSE NEIGHBOUR: 'it returns false'. Refute it at one input. -/
def topAnswersWrong : ChangeSpec := { name := "topAnswers", fn := fun _ => fun
  | [d1, d2, d3] => { results := [.lit (.bool false)], args := [d1, d2, d3] }
  | _ => none }
def TopAnswersWrongFalsely : Prop := topAnswersRow.holds Tryz.pinned (OpenSpec.ofChange topAnswersWrong)

/-- 'ragpickertop.TopWhite': WHATEVER THE INPUT: true; the input reads as it did. -/
def topWhiteSpec : ChangeSpec := { name := "topWhite", fn := fun _ => fun
  | [d1, d2, d3] => { results := [.lit (.bool true)], args := [d1, d2, d3] }
  | _ => none }
def topWhiteRow : OpenClaim := { program := "ytlankjlnnimdoaagreatdoor", sum := "a4a15bbab476b438e8ac67249f45fb2e3b9200de9c20e45c48f112cac5f5d2df", func := "ragpicker/ragpickertop.TopWhite", spec := "topWhite", unfollowed := true, recurses := true, named := ["ragpicker/class.words"], apart := false, laid := [("ragpicker/class.words", laid_ragpicker_class_words)] }
def TopWhiteSaid : Prop := topWhiteRow.holds Tryz.pinned (OpenSpec.ofChange topWhiteSpec)

/-- ITS FALSE NEIGHBOUR: 'it returns false'. Refute it at one input. -/
def topWhiteWrong : ChangeSpec := { name := "topWhite", fn := fun _ => fun
  | [d1, d2, d3] => { results := [.lit (.bool false)], args := [d1, d2, d3] }
  | _ => none }
def TopWhiteWrongFalsely : Prop := topWhiteRow.holds Tryz.pinned (OpenSpec.ofChange topWhiteWrong)

/- THE SECOND FORM. 'bulk': how many values and letters a reading holds, each counted each time it is reached (what is shared counts as often as it is met; a slice's spare places count too). A statement '..UptoSaid' is the law's where the arguments, and the package variables that the reading takes, are together of bulk at most 1048576: NARROWER than '..Said'. Prove '..Said' where nothing that the law and all that it calls make is longer than what came in: it says more and counts as full. Else prove '..UptoSaid'. A law counts once. -/
mutual
def uptoBulk {H : Type} : DataW H → Nat
  | .lit (.string bytes) => bytes.length + 1
  | .lit _ => 1
  | .nil => 1
  | .ptr d => uptoBulk d + 1
  | .slice elems spare => uptoBulkAll elems + uptoBulkAll spare + 1
  | .agg parts => uptoBulkAll parts + 1
  | .iface _ d => uptoBulk d + 1
  | .map entries => uptoBulkEntries entries + 1
  | .held _ => 1
def uptoBulkAll {H : Type} : List (DataW H) → Nat
  | [] => 0
  | d :: r => uptoBulk d + uptoBulkAll r
def uptoBulkEntries {H : Type} : List (Lit × DataW H) → Nat
  | [] => 0
  | x :: r => uptoBulkEntry x + uptoBulkEntries r
def uptoBulkEntry {H : Type} : Lit × DataW H → Nat
  | (.string bytes, d) => bytes.length + uptoBulk d + 1
  | (_, d) => uptoBulk d + 1
 end
def uptoSmall : (H : Type) → List (DataW H) → Bool := fun _ ds => decide (uptoBulkAll ds ≤ 1048576)
def OpenSpec.upto (s : _root_.Go.ChangeSpec) : _root_.Go.OpenSpec := { _root_.Go.OpenSpec.ofChange s with cond := some uptoSmall }

/-- 'ragpickertop.TopEmpty', WHERE WHAT IT READS IS OF BULK AT MOST 1048576: true; the input reads as it did. -/
def topEmptyUptoRow : OpenClaim := { program := "ytlankjlnnimdoaagreatdoor", sum := "a4a15bbab476b438e8ac67249f45fb2e3b9200de9c20e45c48f112cac5f5d2df", func := "ragpicker/ragpickertop.TopEmpty", spec := "topEmpty", unfollowed := true, recurses := true, named := ["ragpicker/class.words"], apart := false, laid := [("ragpicker/class.words", laid_ragpicker_class_words)], narrowed := true }
def TopEmptyUptoSaid : Prop := topEmptyUptoRow.holds Tryz.pinned (OpenSpec.upto topEmptySpec)

/-- 'ragpickertop.TopEpoch', WHERE WHAT IT READS IS OF BULK AT MOST 1048576: true; the input reads as it did. -/
def topEpochUptoRow : OpenClaim := { program := "ytlankjlnnimdoaagreatdoor", sum := "a4a15bbab476b438e8ac67249f45fb2e3b9200de9c20e45c48f112cac5f5d2df", func := "ragpicker/ragpickertop.TopEpoch", spec := "topEpoch", unfollowed := true, recurses := true, named := ["ragpicker/class.words"], apart := false, laid := [("ragpicker/class.words", laid_ragpicker_class_words)], narrowed := true }
def TopEpochUptoSaid : Prop := topEpochUptoRow.holds Tryz.pinned (OpenSpec.upto topEpochSpec)

/-- 'ragpickertop.TopAnswers', WHERE WHAT IT READS IS OF BULK AT MOST 1048576: true; the input reads as it did. -/
def topAnswersUptoRow : OpenClaim := { program := "ytlankjlnnimdoaagreatdoor", sum := "a4a15bbab476b438e8ac67249f45fb2e3b9200de9c20e45c48f112cac5f5d2df", func := "ragpicker/ragpickertop.TopAnswers", spec := "topAnswers", unfollowed := true, recurses := true, named := ["ragpicker/class.words"], apart := false, laid := [("ragpicker/class.words", laid_ragpicker_class_words)], narrowed := true }
def TopAnswersUptoSaid : Prop := topAnswersUptoRow.holds Tryz.pinned (OpenSpec.upto topAnswersSpec)

/-- 'ragpickertop.TopWhite', WHERE WHAT IT READS IS OF BULK AT MOST 1048576: true; the input reads as it did. -/
def topWhiteUptoRow : OpenClaim := { program := "ytlankjlnnimdoaagreatdoor", sum := "a4a15bbab476b438e8ac67249f45fb2e3b9200de9c20e45c48f112cac5f5d2df", func := "ragpicker/ragpickertop.TopWhite", spec := "topWhite", unfollowed := true, recurses := true, named := ["ragpicker/class.words"], apart := false, laid := [("ragpicker/class.words", laid_ragpicker_class_words)], narrowed := true }
def TopWhiteUptoSaid : Prop := topWhiteUptoRow.holds Tryz.pinned (OpenSpec.upto topWhiteSpec)

end Rows
end Go.Proofs.YtlankjlnnimdoaaGreatDoor
