/-
  NARROWER THAN 'FOR EVERY INPUT', by the rows' own cells (each row's printed sentence says how): HandAll: laid · HandOnce: laid · HandRoots: laid · HandBegins: laid.
  DERIVED. THE GIVEN ROWS OF THIS SEAT. 4 by the template 'for every input the law returns true; each argument reads behind the call as it read before'; 0 by the template 'total and deterministic' (their statements: YtpaidgcpjeagkaaDoorTotals.lean).
  GIVEN WITH THE SEED: the statements are not yours to turn. If you find one false, say at which input.
  Laid BY PROGRAM, IN A SANDBOX (cutbox-rows.mjs): the forced cells as the released guide's own fill.sh prints them over the translation dc5e2df06bd5150e… (all of the seat's roots in one cut). By AI agents, Wed Nov 11 2026. No macro, syntax, notation, axiom, sorry.
-/
import Derived.Test.YtpaidgcpjeagkaaDoorChecked
import GoSem.Claim
import GoSem.ClaimJoined
import GoSem.ClaimMapViews
import Derived.JoinedTies
import Derived.KernelRfl
namespace Go.Proofs.YtpaidgcpjeagkaaDoor
/- THE CELL 'sum', in the pinned program and in every row, IS THE sha256 OF THE DUMP (.gsa) THAT YtpaidgcpjeagkaaDoorProg.lean LOADS. Nothing in Lean hashes anything: it is a label: what it is worth is what the hold of that sum in a sandbox is worth. -/
noncomputable def Tryd.pinned : Pinned := { name := "ytpaidgcpjeagkaadoor", sum := "dc5e2df06bd5150e587bec7a15d96d963ba684b015d3aadbe76a1366e5aeb054", checked := Tryd.checked }
namespace Rows
def none {H : Type} : Left H := { results := [], args := [] }

/- WHAT THE LISTED PACKAGE-LEVEL VARIABLES READ AS WHEN THE CALL BEGINS. Each datum BY PROGRAM (the guide's laid-datum.mjs) off the statement by which the dump's own 'gosem.cut.vars' lays the variable. In a bare row this is a premise. The card (YtpaidgcpjeagkaaDoorCards.lean) ties it to the program's text. -/
def laid_ragpicker_class_words {H : Type} : DataW H := .agg [.lit (.int .i64 2), .lit (.int .i64 4), .lit (.int .i64 8)]

/-- 'ragpickerlaw15.HandAll': WHATEVER THE INPUT: true; the input reads as it did. -/
def handAllSpec : ChangeSpec := { name := "handAll", fn := fun _ => fun
  | [d1, d2, d3] => { results := [.lit (.bool true)], args := [d1, d2, d3] }
  | _ => none }
def handAllRow : OpenClaim := { program := "ytpaidgcpjeagkaadoor", sum := "dc5e2df06bd5150e587bec7a15d96d963ba684b015d3aadbe76a1366e5aeb054", func := "ragpicker/ragpickerlaw15.HandAll", spec := "handAll", unfollowed := true, recurses := true, named := ["ragpicker/class.words"], apart := false, laid := [("ragpicker/class.words", laid_ragpicker_class_words)] }
def HandAllSaid : Prop := handAllRow.holds Tryd.pinned (OpenSpec.ofChange handAllSpec)

/-- ITS FALSE NEIGHBOUR: 'it returns false'. Refute it at one input. -/
def handAllWrong : ChangeSpec := { name := "handAll", fn := fun _ => fun
  | [d1, d2, d3] => { results := [.lit (.bool false)], args := [d1, d2, d3] }
  | _ => none }
def HandAllWrongFalsely : Prop := handAllRow.holds Tryd.pinned (OpenSpec.ofChange handAllWrong)

/-- 'ragpickerlaw15.HandOnce': WHATEVER THE INPUT: true; the input reads as it did. -/
def handOnceSpec : ChangeSpec := { name := "handOnce", fn := fun _ => fun
  | [d1, d2, d3] => { results := [.lit (.bool true)], args := [d1, d2, d3] }
  | _ => none }
def handOnceRow : OpenClaim := { program := "ytpaidgcpjeagkaadoor", sum := "dc5e2df06bd5150e587bec7a15d96d963ba684b015d3aadbe76a1366e5aeb054", func := "ragpicker/ragpickerlaw15.HandOnce", spec := "handOnce", unfollowed := true, recurses := true, named := ["ragpicker/class.words"], apart := false, laid := [("ragpicker/class.words", laid_ragpicker_class_words)] }
def HandOnceSaid : Prop := handOnceRow.holds Tryd.pinned (OpenSpec.ofChange handOnceSpec)

/-- ITS FALSE NEIGHBOUR: 'it returns false'. Refute it at one input. -/
def handOnceWrong : ChangeSpec := { name := "handOnce", fn := fun _ => fun
  | [d1, d2, d3] => { results := [.lit (.bool false)], args := [d1, d2, d3] }
  | _ => none }
def HandOnceWrongFalsely : Prop := handOnceRow.holds Tryd.pinned (OpenSpec.ofChange handOnceWrong)

/-- 'ragpickerlaw15.HandRoots': WHATEVER THE INPUT: true; the input reads as it did. -/
def handRootsSpec : ChangeSpec := { name := "handRoots", fn := fun _ => fun
  | [d1, d2, d3] => { results := [.lit (.bool true)], args := [d1, d2, d3] }
  | _ => none }
def handRootsRow : OpenClaim := { program := "ytpaidgcpjeagkaadoor", sum := "dc5e2df06bd5150e587bec7a15d96d963ba684b015d3aadbe76a1366e5aeb054", func := "ragpicker/ragpickerlaw15.HandRoots", spec := "handRoots", unfollowed := true, recurses := true, named := ["ragpicker/class.words"], apart := false, laid := [("ragpicker/class.words", laid_ragpicker_class_words)] }
def HandRootsSaid : Prop := handRootsRow.holds Tryd.pinned (OpenSpec.ofChange handRootsSpec)

/-- ITS FALSE NEIGHBOUR: 'it returns false'. Refute it at one input. -/
def handRootsWrong : ChangeSpec := { name := "handRoots", fn := fun _ => fun
  | [d1, d2, d3] => { results := [.lit (.bool false)], args := [d1, d2, d3] }
  | _ => none }
def HandRootsWrongFalsely : Prop := handRootsRow.holds Tryd.pinned (OpenSpec.ofChange handRootsWrong)

/-- 'ragpickerlaw15.HandBegins': WHATEVER THE INPUT: true; the input reads as it did. -/
def handBeginsSpec : ChangeSpec := { name := "handBegins", fn := fun _ => fun
  | [d1, d2, d3] => { results := [.lit (.bool true)], args := [d1, d2, d3] }
  | _ => none }
def handBeginsRow : OpenClaim := { program := "ytpaidgcpjeagkaadoor", sum := "dc5e2df06bd5150e587bec7a15d96d963ba684b015d3aadbe76a1366e5aeb054", func := "ragpicker/ragpickerlaw15.HandBegins", spec := "handBegins", unfollowed := true, recurses := true, named := ["ragpicker/class.words"], apart := false, laid := [("ragpicker/class.words", laid_ragpicker_class_words)] }
def HandBeginsSaid : Prop := handBeginsRow.holds Tryd.pinned (OpenSpec.ofChange handBeginsSpec)

/-- ITS FALSE NEIGHBOUR: 'it returns false'. Refute it at one input. -/
def handBeginsWrong : ChangeSpec := { name := "handBegins", fn := fun _ => fun
  | [d1, d2, d3] => { results := [.lit (.bool false)], args := [d1, d2, d3] }
  | _ => none }
def HandBeginsWrongFalsely : Prop := handBeginsRow.holds Tryd.pinned (OpenSpec.ofChange handBeginsWrong)

/- THE SECOND FORM. 'bulk': how many values and letters a reading holds, each counted each time it is reached (what is shared counts as often as it is met; a slice's spare places count too). A statement '..UptoSaid' is the law's where the arguments, and the package variables that the reading takes, are together of bulk at most 1048576: NARROWER than '..Said'. Prove '..Said' where nothing that the law and all that it calls make is longer than what came in: it says more and counts as full. Else prove '..UptoSaid'. A law counts once. -/
mutual
def uptoBulk {H : Type} : DataW H → Nat
  | .lit (.string bytes) => bytes.length + 1
  | .lit _ => 1
  | .nil => 1
  | .ptr d => uptoBulk d + 1
  | .slice elems spare => uptoBulkAll elems + uptoBulkAll spare + 1
  | .agg parts => uptoBulkAll parts + 1
  | .iface _ d => uptoBulk d + 1
  | .map entries => uptoBulkEntries entries + 1
  | .held _ => 1
def uptoBulkAll {H : Type} : List (DataW H) → Nat
  | [] => 0
  | d :: r => uptoBulk d + uptoBulkAll r
def uptoBulkEntries {H : Type} : List (Lit × DataW H) → Nat
  | [] => 0
  | x :: r => uptoBulkEntry x + uptoBulkEntries r
def uptoBulkEntry {H : Type} : Lit × DataW H → Nat
  | (.string bytes, d) => bytes.length + uptoBulk d + 1
  | (_, d) => uptoBulk d + 1
 end
def uptoSmall : (H : Type) → List (DataW H) → Bool := fun _ ds => decide (uptoBulkAll ds ≤ 1048576)
def OpenSpec.upto (s : _root_.Go.ChangeSpec) : _root_.Go.OpenSpec := { _root_.Go.OpenSpec.ofChange s with cond := some uptoSmall }

/-- 'ragpickerlaw15.HandAll', WHERE WHAT IT READS IS OF BULK AT MOST 1048576: true; the input reads as it did. -/
def handAllUptoRow : OpenClaim := { program := "ytpaidgcpjeagkaadoor", sum := "dc5e2df06bd5150e587bec7a15d96d963ba684b015d3aadbe76a1366e5aeb054", func := "ragpicker/ragpickerlaw15.HandAll", spec := "handAll", unfollowed := true, recurses := true, named := ["ragpicker/class.words"], apart := false, laid := [("ragpicker/class.words", laid_ragpicker_class_words)], narrowed := true }
def HandAllUptoSaid : Prop := handAllUptoRow.holds Tryd.pinned (OpenSpec.upto handAllSpec)

/-- 'ragpickerlaw15.HandOnce', WHERE WHAT IT READS IS OF BULK AT MOST 1048576: true; the input reads as it did. -/
def handOnceUptoRow : OpenClaim := { program := "ytpaidgcpjeagkaadoor", sum := "dc5e2df06bd5150e587bec7a15d96d963ba684b015d3aadbe76a1366e5aeb054", func := "ragpicker/ragpickerlaw15.HandOnce", spec := "handOnce", unfollowed := true, recurses := true, named := ["ragpicker/class.words"], apart := false, laid := [("ragpicker/class.words", laid_ragpicker_class_words)], narrowed := true }
def HandOnceUptoSaid : Prop := handOnceUptoRow.holds Tryd.pinned (OpenSpec.upto handOnceSpec)

/-- 'ragpickerlaw15.HandRoots', WHERE WHAT IT READS IS OF BULK AT MOST 1048576: true; the input reads as it did. -/
def handRootsUptoRow : OpenClaim := { program := "ytpaidgcpjeagkaadoor", sum := "dc5e2df06bd5150e587bec7a15d96d963ba684b015d3aadbe76a1366e5aeb054", func := "ragpicker/ragpickerlaw15.HandRoots", spec := "handRoots", unfollowed := true, recurses := true, named := ["ragpicker/class.words"], apart := false, laid := [("ragpicker/class.words", laid_ragpicker_class_words)], narrowed := true }
def HandRootsUptoSaid : Prop := handRootsUptoRow.holds Tryd.pinned (OpenSpec.upto handRootsSpec)

/-- 'ragpickerlaw15.HandBegins', WHERE WHAT IT READS IS OF BULK AT MOST 1048576: true; the input reads as it did. -/
def handBeginsUptoRow : OpenClaim := { program := "ytpaidgcpjeagkaadoor", sum := "dc5e2df06bd5150e587bec7a15d96d963ba684b015d3aadbe76a1366e5aeb054", func := "ragpicker/ragpickerlaw15.HandBegins", spec := "handBegins", unfollowed := true, recurses := true, named := ["ragpicker/class.words"], apart := false, laid := [("ragpicker/class.words", laid_ragpicker_class_words)], narrowed := true }
def HandBeginsUptoSaid : Prop := handBeginsUptoRow.holds Tryd.pinned (OpenSpec.upto handBeginsSpec)

end Rows
end Go.Proofs.YtpaidgcpjeagkaaDoor
