/-
  NARROWER THAN 'FOR EVERY INPUT', by the rows' own cells (each row's printed sentence says how): TraceKnows: laid · TraceEnds: laid · TraceKeeps: laid · TraceReach: laid.
  DERIVED. THE GIVEN ROWS OF THIS SEAT. 4 by the template 'for every input the law returns true; each argument reads behind the call as it read before'; 0 by the template 'total and deterministic' (their statements: YtfoeojkifbmddaaGreatDoorTotals.lean).
  GIVEN WITH THE SEED: the statements are not yours to turn. If you find one false, say at which input.
  Laid BY PROGRAM, IN A SANDBOX (cutbox-rows.mjs): the forced cells as the released guide's own fill.sh prints them over the translation 824685dffd4ceb76… (all of the seat's roots in one cut). By AI agents, Wed Nov 11 2026. No macro, syntax, notation, axiom, sorry.
-/
import Derived.Test.YtfoeojkifbmddaaGreatDoorChecked
import GoSem.Claim
import GoSem.ClaimJoined
import GoSem.ClaimMapViews
import Derived.JoinedTies
import Derived.KernelRfl
namespace Go.Proofs.YtfoeojkifbmddaaGreatDoor
/- THE CELL 'sum', in the pinned program and in every row, IS THE sha256 OF THE DUMP (.gsa) THAT YtfoeojkifbmddaaGreatDoorProg.lean LOADS. Nothing in Lean hashes anything: it is a label: what it is worth is what the hold of that sum in a sandbox is worth. -/
noncomputable def Tryz.pinned : Pinned := { name := "ytfoeojkifbmddaagreatdoor", sum := "824685dffd4ceb76c9af813fa48ae5486514a03ed033488a35640be737778a40", checked := Tryz.checked }
namespace Rows
def none {H : Type} : Left H := { results := [], args := [] }

/- WHAT THE LISTED PACKAGE-LEVEL VARIABLES READ AS WHEN THE CALL BEGINS. Each datum BY PROGRAM (the guide's laid-datum.mjs) off the statement by which the dump's own 'gosem.cut.vars' lays the variable. In a bare row this is a premise. The card (YtfoeojkifbmddaaGreatDoorCards.lean) ties it to the program's text. -/
def laid_ragpicker_class_words {H : Type} : DataW H := .agg [.lit (.int .i64 2), .lit (.int .i64 4), .lit (.int .i64 8)]

/-- 'ragpickerlaw16.TraceKnows': WHATEVER THE INPUT: true; the input reads as it did. -/
def traceKnowsSpec : ChangeSpec := { name := "traceKnows", fn := fun _ => fun
  | [d1, d2] => { results := [.lit (.bool true)], args := [d1, d2] }
  | _ => none }
def traceKnowsRow : OpenClaim := { program := "ytfoeojkifbmddaagreatdoor", sum := "824685dffd4ceb76c9af813fa48ae5486514a03ed033488a35640be737778a40", func := "ragpicker/ragpickerlaw16.TraceKnows", spec := "traceKnows", unfollowed := true, recurses := true, named := ["ragpicker/class.words"], apart := false, laid := [("ragpicker/class.words", laid_ragpicker_class_words)] }
def TraceKnowsSaid : Prop := traceKnowsRow.holds Tryz.pinned (OpenSpec.ofChange traceKnowsSpec)

/-- ITS FALSE NEIGHBOUR: 'it returns false'. Refute it at one input. -/
def traceKnowsWrong : ChangeSpec := { name := "traceKnows", fn := fun _ => fun
  | [d1, d2] => { results := [.lit (.bool false)], args := [d1, d2] }
  | _ => none }
def TraceKnowsWrongFalsely : Prop := traceKnowsRow.holds Tryz.pinned (OpenSpec.ofChange traceKnowsWrong)

/-- 'ragpickerlaw16.TraceEnds': WHATEVER THE INPUT: true; the input reads as it did. -/
def traceEndsSpec : ChangeSpec := { name := "traceEnds", fn := fun _ => fun
  | [d1, d2] => { results := [.lit (.bool true)], args := [d1, d2] }
  | _ => none }
def traceEndsRow : OpenClaim := { program := "ytfoeojkifbmddaagreatdoor", sum := "824685dffd4ceb76c9af813fa48ae5486514a03ed033488a35640be737778a40", func := "ragpicker/ragpickerlaw16.TraceEnds", spec := "traceEnds", unfollowed := true, recurses := true, named := ["ragpicker/class.words"], apart := false, laid := [("ragpicker/class.words", laid_ragpicker_class_words)] }
def TraceEndsSaid : Prop := traceEndsRow.holds Tryz.pinned (OpenSpec.ofChange traceEndsSpec)

/-- ITS FALSE NEIGHBOUR: 'it returns false'. Refute it at one input. -/
def traceEndsWrong : ChangeSpec := { name := "traceEnds", fn := fun _ => fun
  | [d1, d2] => { results := [.lit (.bool false)], args := [d1, d2] }
  | _ => none }
def TraceEndsWrongFalsely : Prop := traceEndsRow.holds Tryz.pinned (OpenSpec.ofChange traceEndsWrong)

/-- 'ragpickerlaw16.TraceKeeps': WHATEVER THE INPUT: true; the input reads as it did. -/
def traceKeepsSpec : ChangeSpec := { name := "traceKeeps", fn := fun _ => fun
  | [d1, d2] => { results := [.lit (.bool true)], args := [d1, d2] }
  | _ => none }
def traceKeepsRow : OpenClaim := { program := "ytfoeojkifbmddaagreatdoor", sum := "824685dffd4ceb76c9af813fa48ae5486514a03ed033488a35640be737778a40", func := "ragpicker/ragpickerlaw16.TraceKeeps", spec := "traceKeeps", unfollowed := true, recurses := true, named := ["ragpicker/class.words"], apart := false, laid := [("ragpicker/class.words", laid_ragpicker_class_words)] }
def TraceKeepsSaid : Prop := traceKeepsRow.holds Tryz.pinned (OpenSpec.ofChange traceKeepsSpec)

/-- ITS FALSE NEIGHBOUR: 'it returns false'. Refute it at one input. -/
def traceKeepsWrong : ChangeSpec := { name := "traceKeeps", fn := fun _ => fun
  | [d1, d2] => { results := [.lit (.bool false)], args := [d1, d2] }
  | _ => none }
def TraceKeepsWrongFalsely : Prop := traceKeepsRow.holds Tryz.pinned (OpenSpec.ofChange traceKeepsWrong)

/-- 'ragpickerlaw16.TraceReach': WHATEVER THE INPUT: true; the input reads as it did. -/
def traceReachSpec : ChangeSpec := { name := "traceReach", fn := fun _ => fun
  | [d1, d2] => { results := [.lit (.bool true)], args := [d1, d2] }
  | _ => none }
def traceReachRow : OpenClaim := { program := "ytfoeojkifbmddaagreatdoor", sum := "824685dffd4ceb76c9af813fa48ae5486514a03ed033488a35640be737778a40", func := "ragpicker/ragpickerlaw16.TraceReach", spec := "traceReach", unfollowed := true, recurses := true, named := ["ragpicker/class.words"], apart := false, laid := [("ragpicker/class.words", laid_ragpicker_class_words)] }
def TraceReachSaid : Prop := traceReachRow.holds Tryz.pinned (OpenSpec.ofChange traceReachSpec)

/-- ITS FALSE NEIGHBOUR: 'it returns false'. Refute it at one input. -/
def traceReachWrong : ChangeSpec := { name := "traceReach", fn := fun _ => fun
  | [d1, d2] => { results := [.lit (.bool false)], args := [d1, d2] }
  | _ => none }
def TraceReachWrongFalsely : Prop := traceReachRow.holds Tryz.pinned (OpenSpec.ofChange traceReachWrong)

/- THE SECOND FORM. 'bulk': how many values and letters a reading holds, each counted each time it is reached (what is shared counts as often as it is met; a slice's spare places count too). A statement '..UptoSaid' is the law's where the arguments, and the package variables that the reading takes, are together of bulk at most 1048576: NARROWER than '..Said'. Prove '..Said' where nothing that the law and all that it calls make is longer than what came in: it says more and counts as full. Else prove '..UptoSaid'. A law counts once. -/
mutual
def uptoBulk {H : Type} : DataW H → Nat
  | .lit (.string bytes) => bytes.length + 1
  | .lit _ => 1
  | .nil => 1
  | .ptr d => uptoBulk d + 1
  | .slice elems spare => uptoBulkAll elems + uptoBulkAll spare + 1
  | .agg parts => uptoBulkAll parts + 1
  | .iface _ d => uptoBulk d + 1
  | .map entries => uptoBulkEntries entries + 1
  | .held _ => 1
def uptoBulkAll {H : Type} : List (DataW H) → Nat
  | [] => 0
  | d :: r => uptoBulk d + uptoBulkAll r
def uptoBulkEntries {H : Type} : List (Lit × DataW H) → Nat
  | [] => 0
  | x :: r => uptoBulkEntry x + uptoBulkEntries r
def uptoBulkEntry {H : Type} : Lit × DataW H → Nat
  | (.string bytes, d) => bytes.length + uptoBulk d + 1
  | (_, d) => uptoBulk d + 1
 end
def uptoSmall : (H : Type) → List (DataW H) → Bool := fun _ ds => decide (uptoBulkAll ds ≤ 1048576)
def OpenSpec.upto (s : _root_.Go.ChangeSpec) : _root_.Go.OpenSpec := { _root_.Go.OpenSpec.ofChange s with cond := some uptoSmall }

/-- 'ragpickerlaw16.TraceKnows', WHERE WHAT IT READS IS OF BULK AT MOST 1048576: true; the input reads as it did. -/
def traceKnowsUptoRow : OpenClaim := { program := "ytfoeojkifbmddaagreatdoor", sum := "824685dffd4ceb76c9af813fa48ae5486514a03ed033488a35640be737778a40", func := "ragpicker/ragpickerlaw16.TraceKnows", spec := "traceKnows", unfollowed := true, recurses := true, named := ["ragpicker/class.words"], apart := false, laid := [("ragpicker/class.words", laid_ragpicker_class_words)], narrowed := true }
def TraceKnowsUptoSaid : Prop := traceKnowsUptoRow.holds Tryz.pinned (OpenSpec.upto traceKnowsSpec)

/-- 'ragpickerlaw16.TraceEnds', WHERE WHAT IT READS IS OF BULK AT MOST 1048576: true; the input reads as it did. -/
def traceEndsUptoRow : OpenClaim := { program := "ytfoeojkifbmddaagreatdoor", sum := "824685dffd4ceb76c9af813fa48ae5486514a03ed033488a35640be737778a40", func := "ragpicker/ragpickerlaw16.TraceEnds", spec := "traceEnds", unfollowed := true, recurses := true, named := ["ragpicker/class.words"], apart := false, laid := [("ragpicker/class.words", laid_ragpicker_class_words)], narrowed := true }
def TraceEndsUptoSaid : Prop := traceEndsUptoRow.holds Tryz.pinned (OpenSpec.upto traceEndsSpec)

/-- 'ragpickerlaw16.TraceKeeps', WHERE WHAT IT READS IS OF BULK AT MOST 1048576: true; the input reads as it did. -/
def traceKeepsUptoRow : OpenClaim := { program := "ytfoeojkifbmddaagreatdoor", sum := "824685dffd4ceb76c9af813fa48ae5486514a03ed033488a35640be737778a40", func := "ragpicker/ragpickerlaw16.TraceKeeps", spec := "traceKeeps", unfollowed := true, recurses := true, named := ["ragpicker/class.words"], apart := false, laid := [("ragpicker/class.words", laid_ragpicker_class_words)], narrowed := true }
def TraceKeepsUptoSaid : Prop := traceKeepsUptoRow.holds Tryz.pinned (OpenSpec.upto traceKeepsSpec)

/-- 'ragpickerlaw16.TraceReach', WHERE WHAT IT READS IS OF BULK AT MOST 1048576: true; the input reads as it did. -/
def traceReachUptoRow : OpenClaim := { program := "ytfoeojkifbmddaagreatdoor", sum := "824685dffd4ceb76c9af813fa48ae5486514a03ed033488a35640be737778a40", func := "ragpicker/ragpickerlaw16.TraceReach", spec := "traceReach", unfollowed := true, recurses := true, named := ["ragpicker/class.words"], apart := false, laid := [("ragpicker/class.words", laid_ragpicker_class_words)], narrowed := true }
def TraceReachUptoSaid : Prop := traceReachUptoRow.holds Tryz.pinned (OpenSpec.upto traceReachSpec)

end Rows
end Go.Proofs.YtfoeojkifbmddaaGreatDoor
