/-
  NARROWER THAN 'FOR EVERY INPUT', by the rows' own cells (each row's printed sentence says how): HandStays: laid · HandEnds: laid · HandTells: laid.
  DERIVED. THE GIVEN ROWS OF THIS SEAT. 3 by the template 'for every input the law returns true; each argument reads behind the call as it read before'; 0 by the template 'total and deterministic' (their statements: YtpaidgcpjeagkaaGreatDoorTotals.lean).
  GIVEN WITH THE SEED: the statements are not yours to turn. If you find one false, say at which input.
  Laid BY PROGRAM, IN A SANDBOX (cutbox-rows.mjs): the forced cells as the released guide's own fill.sh prints them over the translation e7274ca356cefa48… (all of the seat's roots in one cut). By AI agents, Wed Nov 11 2026. No macro, syntax, notation, axiom, sorry.
-/
import Derived.Test.YtpaidgcpjeagkaaGreatDoorChecked
import GoSem.Claim
import GoSem.ClaimJoined
import GoSem.ClaimMapViews
import Derived.JoinedTies
import Derived.KernelRfl
namespace Go.Proofs.YtpaidgcpjeagkaaGreatDoor
/- THE CELL 'sum', in the pinned program and in every row, IS THE sha256 OF THE DUMP (.gsa) THAT YtpaidgcpjeagkaaGreatDoorProg.lean LOADS. Nothing in Lean hashes anything: it is a label: what it is worth is what the hold of that sum in a sandbox is worth. -/
noncomputable def Tryz.pinned : Pinned := { name := "ytpaidgcpjeagkaagreatdoor", sum := "e7274ca356cefa48369d18cdfa8244c6750357f427b8436bb9401f6a437216b8", checked := Tryz.checked }
namespace Rows
def none {H : Type} : Left H := { results := [], args := [] }

/- WHAT THE LISTED PACKAGE-LEVEL VARIABLES READ AS WHEN THE CALL BEGINS. Each datum BY PROGRAM (the guide's laid-datum.mjs) off the statement by which the dump's own 'gosem.cut.vars' lays the variable. In a bare row this is a premise. The card (YtpaidgcpjeagkaaGreatDoorCards.lean) ties it to the program's text. -/
def laid_ragpicker_class_words {H : Type} : DataW H := .agg [.lit (.int .i64 2), .lit (.int .i64 4), .lit (.int .i64 8)]

/-- 'ragpickerlaw15.HandStays': WHATEVER THE INPUT: true; the input reads as it did. -/
def handStaysSpec : ChangeSpec := { name := "handStays", fn := fun _ => fun
  | [d1, d2, d3] => { results := [.lit (.bool true)], args := [d1, d2, d3] }
  | _ => none }
def handStaysRow : OpenClaim := { program := "ytpaidgcpjeagkaagreatdoor", sum := "e7274ca356cefa48369d18cdfa8244c6750357f427b8436bb9401f6a437216b8", func := "ragpicker/ragpickerlaw15.HandStays", spec := "handStays", unfollowed := true, recurses := true, named := ["ragpicker/class.words"], apart := false, laid := [("ragpicker/class.words", laid_ragpicker_class_words)] }
def HandStaysSaid : Prop := handStaysRow.holds Tryz.pinned (OpenSpec.ofChange handStaysSpec)

/-- ITS FALSE NEIGHBOUR: 'it returns false'. Refute it at one input. -/
def handStaysWrong : ChangeSpec := { name := "handStays", fn := fun _ => fun
  | [d1, d2, d3] => { results := [.lit (.bool false)], args := [d1, d2, d3] }
  | _ => none }
def HandStaysWrongFalsely : Prop := handStaysRow.holds Tryz.pinned (OpenSpec.ofChange handStaysWrong)

/-- 'ragpickerlaw15.HandEnds': WHATEVER THE INPUT: true; the input reads as it did. -/
def handEndsSpec : ChangeSpec := { name := "handEnds", fn := fun _ => fun
  | [d1, d2, d3] => { results := [.lit (.bool true)], args := [d1, d2, d3] }
  | _ => none }
def handEndsRow : OpenClaim := { program := "ytpaidgcpjeagkaagreatdoor", sum := "e7274ca356cefa48369d18cdfa8244c6750357f427b8436bb9401f6a437216b8", func := "ragpicker/ragpickerlaw15.HandEnds", spec := "handEnds", unfollowed := true, recurses := true, named := ["ragpicker/class.words"], apart := false, laid := [("ragpicker/class.words", laid_ragpicker_class_words)] }
def HandEndsSaid : Prop := handEndsRow.holds Tryz.pinned (OpenSpec.ofChange handEndsSpec)

/-- ITS FALSE NEIGHBOUR: 'it returns false'. Refute it at one input. -/
def handEndsWrong : ChangeSpec := { name := "handEnds", fn := fun _ => fun
  | [d1, d2, d3] => { results := [.lit (.bool false)], args := [d1, d2, d3] }
  | _ => none }
def HandEndsWrongFalsely : Prop := handEndsRow.holds Tryz.pinned (OpenSpec.ofChange handEndsWrong)

/-- 'ragpickerlaw15.HandTells': WHATEVER THE INPUT: true; the input reads as it did. -/
def handTellsSpec : ChangeSpec := { name := "handTells", fn := fun _ => fun
  | [d1, d2, d3, d4] => { results := [.lit (.bool true)], args := [d1, d2, d3, d4] }
  | _ => none }
def handTellsRow : OpenClaim := { program := "ytpaidgcpjeagkaagreatdoor", sum := "e7274ca356cefa48369d18cdfa8244c6750357f427b8436bb9401f6a437216b8", func := "ragpicker/ragpickerlaw15.HandTells", spec := "handTells", unfollowed := true, recurses := true, named := ["ragpicker/class.words"], apart := false, laid := [("ragpicker/class.words", laid_ragpicker_class_words)] }
def HandTellsSaid : Prop := handTellsRow.holds Tryz.pinned (OpenSpec.ofChange handTellsSpec)

/-- ITS FALSE NEIGHBOUR: 'it returns false'. Refute it at one input. -/
def handTellsWrong : ChangeSpec := { name := "handTells", fn := fun _ => fun
  | [d1, d2, d3, d4] => { results := [.lit (.bool false)], args := [d1, d2, d3, d4] }
  | _ => none }
def HandTellsWrongFalsely : Prop := handTellsRow.holds Tryz.pinned (OpenSpec.ofChange handTellsWrong)

/- THE SECOND FORM. 'bulk': how many values and letters a reading holds, each counted each time it is reached (what is shared counts as often as it is met; a slice's spare places count too). A statement '..UptoSaid' is the law's where the arguments, and the package variables that the reading takes, are together of bulk at most 1048576: NARROWER than '..Said'. Prove '..Said' where nothing that the law and all that it calls make is longer than what came in: it says more and counts as full. Else prove '..UptoSaid'. A law counts once. -/
mutual
def uptoBulk {H : Type} : DataW H → Nat
  | .lit (.string bytes) => bytes.length + 1
  | .lit _ => 1
  | .nil => 1
  | .ptr d => uptoBulk d + 1
  | .slice elems spare => uptoBulkAll elems + uptoBulkAll spare + 1
  | .agg parts => uptoBulkAll parts + 1
  | .iface _ d => uptoBulk d + 1
  | .map entries => uptoBulkEntries entries + 1
  | .held _ => 1
def uptoBulkAll {H : Type} : List (DataW H) → Nat
  | [] => 0
  | d :: r => uptoBulk d + uptoBulkAll r
def uptoBulkEntries {H : Type} : List (Lit × DataW H) → Nat
  | [] => 0
  | x :: r => uptoBulkEntry x + uptoBulkEntries r
def uptoBulkEntry {H : Type} : Lit × DataW H → Nat
  | (.string bytes, d) => bytes.length + uptoBulk d + 1
  | (_, d) => uptoBulk d + 1
 end
def uptoSmall : (H : Type) → List (DataW H) → Bool := fun _ ds => decide (uptoBulkAll ds ≤ 1048576)
def OpenSpec.upto (s : _root_.Go.ChangeSpec) : _root_.Go.OpenSpec := { _root_.Go.OpenSpec.ofChange s with cond := some uptoSmall }

/-- 'ragpickerlaw15.HandStays', WHERE WHAT IT READS IS OF BULK AT MOST 1048576: true; the input reads as it did. -/
def handStaysUptoRow : OpenClaim := { program := "ytpaidgcpjeagkaagreatdoor", sum := "e7274ca356cefa48369d18cdfa8244c6750357f427b8436bb9401f6a437216b8", func := "ragpicker/ragpickerlaw15.HandStays", spec := "handStays", unfollowed := true, recurses := true, named := ["ragpicker/class.words"], apart := false, laid := [("ragpicker/class.words", laid_ragpicker_class_words)], narrowed := true }
def HandStaysUptoSaid : Prop := handStaysUptoRow.holds Tryz.pinned (OpenSpec.upto handStaysSpec)

/-- 'ragpickerlaw15.HandEnds', WHERE WHAT IT READS IS OF BULK AT MOST 1048576: true; the input reads as it did. -/
def handEndsUptoRow : OpenClaim := { program := "ytpaidgcpjeagkaagreatdoor", sum := "e7274ca356cefa48369d18cdfa8244c6750357f427b8436bb9401f6a437216b8", func := "ragpicker/ragpickerlaw15.HandEnds", spec := "handEnds", unfollowed := true, recurses := true, named := ["ragpicker/class.words"], apart := false, laid := [("ragpicker/class.words", laid_ragpicker_class_words)], narrowed := true }
def HandEndsUptoSaid : Prop := handEndsUptoRow.holds Tryz.pinned (OpenSpec.upto handEndsSpec)

/-- 'ragpickerlaw15.HandTells', WHERE WHAT IT READS IS OF BULK AT MOST 1048576: true; the input reads as it did. -/
def handTellsUptoRow : OpenClaim := { program := "ytpaidgcpjeagkaagreatdoor", sum := "e7274ca356cefa48369d18cdfa8244c6750357f427b8436bb9401f6a437216b8", func := "ragpicker/ragpickerlaw15.HandTells", spec := "handTells", unfollowed := true, recurses := true, named := ["ragpicker/class.words"], apart := false, laid := [("ragpicker/class.words", laid_ragpicker_class_words)], narrowed := true }
def HandTellsUptoSaid : Prop := handTellsUptoRow.holds Tryz.pinned (OpenSpec.upto handTellsSpec)

end Rows
end Go.Proofs.YtpaidgcpjeagkaaGreatDoor
