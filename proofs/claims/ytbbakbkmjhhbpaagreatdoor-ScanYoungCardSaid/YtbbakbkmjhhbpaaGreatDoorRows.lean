/-
  NARROWER THAN 'FOR EVERY INPUT', by the rows' own cells (each row's printed sentence says how): ScanSteps: laid · ScanEnds: laid · ScanCards: laid · ScanKeeps: laid · ScanYoung: laid · ScanIdle: laid.
  DERIVED. THE GIVEN ROWS OF THIS SEAT. 6 by the template 'for every input the law returns true; each argument reads behind the call as it read before'; 0 by the template 'total and deterministic' (their statements: YtbbakbkmjhhbpaaGreatDoorTotals.lean).
  GIVEN WITH THE SEED: the statements are not yours to turn. If you find one false, say at which input.
  Laid BY PROGRAM, IN A SANDBOX (cutbox-rows.mjs): the forced cells as the released guide's own fill.sh prints them over the translation 7331d69099dceef9… (all of the seat's roots in one cut). By AI agents, Wed Nov 11 2026. No macro, syntax, notation, axiom, sorry.
-/
import Derived.Test.YtbbakbkmjhhbpaaGreatDoorChecked
import GoSem.Claim
import GoSem.ClaimJoined
import GoSem.ClaimMapViews
import Derived.JoinedTies
import Derived.KernelRfl
namespace Go.Proofs.YtbbakbkmjhhbpaaGreatDoor
/- THE CELL 'sum', in the pinned program and in every row, IS THE sha256 OF THE DUMP (.gsa) THAT YtbbakbkmjhhbpaaGreatDoorProg.lean LOADS. Nothing in Lean hashes anything: it is a label: what it is worth is what the hold of that sum in a sandbox is worth. -/
noncomputable def Tryz.pinned : Pinned := { name := "ytbbakbkmjhhbpaagreatdoor", sum := "7331d69099dceef9488115f592a568967740b2001b4e52566077b0f1d2991948", checked := Tryz.checked }
namespace Rows
def none {H : Type} : Left H := { results := [], args := [] }

/- WHAT THE LISTED PACKAGE-LEVEL VARIABLES READ AS WHEN THE CALL BEGINS. Each datum BY PROGRAM (the guide's laid-datum.mjs) off the statement by which the dump's own 'gosem.cut.vars' lays the variable. In a bare row this is a premise. The card (YtbbakbkmjhhbpaaGreatDoorCards.lean) ties it to the program's text. -/
def laid_ragpicker_class_words {H : Type} : DataW H := .agg [.lit (.int .i64 2), .lit (.int .i64 4), .lit (.int .i64 8)]

/-- 'ragpickerlaw17.ScanSteps': WHATEVER THE INPUT: true; the input reads as it did. -/
def scanStepsSpec : ChangeSpec := { name := "scanSteps", fn := fun _ => fun
  | [d1, d2] => { results := [.lit (.bool true)], args := [d1, d2] }
  | _ => none }
def scanStepsRow : OpenClaim := { program := "ytbbakbkmjhhbpaagreatdoor", sum := "7331d69099dceef9488115f592a568967740b2001b4e52566077b0f1d2991948", func := "ragpicker/ragpickerlaw17.ScanSteps", spec := "scanSteps", unfollowed := true, recurses := true, named := ["ragpicker/class.words"], apart := false, laid := [("ragpicker/class.words", laid_ragpicker_class_words)] }
def ScanStepsSaid : Prop := scanStepsRow.holds Tryz.pinned (OpenSpec.ofChange scanStepsSpec)

/-- ITS FALSE NEIGHBOUR: 'it returns false'. Refute it at one input. -/
def scanStepsWrong : ChangeSpec := { name := "scanSteps", fn := fun _ => fun
  | [d1, d2] => { results := [.lit (.bool false)], args := [d1, d2] }
  | _ => none }
def ScanStepsWrongFalsely : Prop := scanStepsRow.holds Tryz.pinned (OpenSpec.ofChange scanStepsWrong)

/-- 'ragpickerlaw17.ScanEnds': WHATEVER THE INPUT: true; the input reads as it did. -/
def scanEndsSpec : ChangeSpec := { name := "scanEnds", fn := fun _ => fun
  | [d1, d2] => { results := [.lit (.bool true)], args := [d1, d2] }
  | _ => none }
def scanEndsRow : OpenClaim := { program := "ytbbakbkmjhhbpaagreatdoor", sum := "7331d69099dceef9488115f592a568967740b2001b4e52566077b0f1d2991948", func := "ragpicker/ragpickerlaw17.ScanEnds", spec := "scanEnds", unfollowed := true, recurses := true, named := ["ragpicker/class.words"], apart := false, laid := [("ragpicker/class.words", laid_ragpicker_class_words)] }
def ScanEndsSaid : Prop := scanEndsRow.holds Tryz.pinned (OpenSpec.ofChange scanEndsSpec)

/-- ITS FALSE NEIGHBOUR: 'it returns false'. Refute it at one input. -/
def scanEndsWrong : ChangeSpec := { name := "scanEnds", fn := fun _ => fun
  | [d1, d2] => { results := [.lit (.bool false)], args := [d1, d2] }
  | _ => none }
def ScanEndsWrongFalsely : Prop := scanEndsRow.holds Tryz.pinned (OpenSpec.ofChange scanEndsWrong)

/-- 'ragpickerlaw17.ScanCards': WHATEVER THE INPUT: true; the input reads as it did. -/
def scanCardsSpec : ChangeSpec := { name := "scanCards", fn := fun _ => fun
  | [d1, d2, d3] => { results := [.lit (.bool true)], args := [d1, d2, d3] }
  | _ => none }
def scanCardsRow : OpenClaim := { program := "ytbbakbkmjhhbpaagreatdoor", sum := "7331d69099dceef9488115f592a568967740b2001b4e52566077b0f1d2991948", func := "ragpicker/ragpickerlaw17.ScanCards", spec := "scanCards", unfollowed := true, recurses := true, named := ["ragpicker/class.words"], apart := false, laid := [("ragpicker/class.words", laid_ragpicker_class_words)] }
def ScanCardsSaid : Prop := scanCardsRow.holds Tryz.pinned (OpenSpec.ofChange scanCardsSpec)

/-- ITS FALSE NEIGHBOUR: 'it returns false'. Refute it at one input. -/
def scanCardsWrong : ChangeSpec := { name := "scanCards", fn := fun _ => fun
  | [d1, d2, d3] => { results := [.lit (.bool false)], args := [d1, d2, d3] }
  | _ => none }
def ScanCardsWrongFalsely : Prop := scanCardsRow.holds Tryz.pinned (OpenSpec.ofChange scanCardsWrong)

/-- 'ragpickerlaw17.ScanKeeps': WHATEVER THE INPUT: true; the input reads as it did. -/
def scanKeepsSpec : ChangeSpec := { name := "scanKeeps", fn := fun _ => fun
  | [d1, d2] => { results := [.lit (.bool true)], args := [d1, d2] }
  | _ => none }
def scanKeepsRow : OpenClaim := { program := "ytbbakbkmjhhbpaagreatdoor", sum := "7331d69099dceef9488115f592a568967740b2001b4e52566077b0f1d2991948", func := "ragpicker/ragpickerlaw17.ScanKeeps", spec := "scanKeeps", unfollowed := true, recurses := true, named := ["ragpicker/class.words"], apart := false, laid := [("ragpicker/class.words", laid_ragpicker_class_words)] }
def ScanKeepsSaid : Prop := scanKeepsRow.holds Tryz.pinned (OpenSpec.ofChange scanKeepsSpec)

/-- ITS FALSE NEIGHBOUR: 'it returns false'. Refute it at one input. -/
def scanKeepsWrong : ChangeSpec := { name := "scanKeeps", fn := fun _ => fun
  | [d1, d2] => { results := [.lit (.bool false)], args := [d1, d2] }
  | _ => none }
def ScanKeepsWrongFalsely : Prop := scanKeepsRow.holds Tryz.pinned (OpenSpec.ofChange scanKeepsWrong)

/-- 'ragpickerlaw17.ScanYoung': WHATEVER THE INPUT: true; the input reads as it did. -/
def scanYoungSpec : ChangeSpec := { name := "scanYoung", fn := fun _ => fun
  | [d1, d2] => { results := [.lit (.bool true)], args := [d1, d2] }
  | _ => none }
def scanYoungRow : OpenClaim := { program := "ytbbakbkmjhhbpaagreatdoor", sum := "7331d69099dceef9488115f592a568967740b2001b4e52566077b0f1d2991948", func := "ragpicker/ragpickerlaw17.ScanYoung", spec := "scanYoung", unfollowed := true, recurses := true, named := ["ragpicker/class.words"], apart := false, laid := [("ragpicker/class.words", laid_ragpicker_class_words)] }
def ScanYoungSaid : Prop := scanYoungRow.holds Tryz.pinned (OpenSpec.ofChange scanYoungSpec)

/-- ITS FALSE NEIGHBOUR: 'it returns false'. Refute it at one input. -/
def scanYoungWrong : ChangeSpec := { name := "scanYoung", fn := fun _ => fun
  | [d1, d2] => { results := [.lit (.bool false)], args := [d1, d2] }
  | _ => none }
def ScanYoungWrongFalsely : Prop := scanYoungRow.holds Tryz.pinned (OpenSpec.ofChange scanYoungWrong)

/-- 'ragpickerlaw17.ScanIdle': WHATEVER THE INPUT: true; the input reads as it did. -/
def scanIdleSpec : ChangeSpec := { name := "scanIdle", fn := fun _ => fun
  | [d1, d2] => { results := [.lit (.bool true)], args := [d1, d2] }
  | _ => none }
def scanIdleRow : OpenClaim := { program := "ytbbakbkmjhhbpaagreatdoor", sum := "7331d69099dceef9488115f592a568967740b2001b4e52566077b0f1d2991948", func := "ragpicker/ragpickerlaw17.ScanIdle", spec := "scanIdle", unfollowed := true, recurses := true, named := ["ragpicker/class.words"], apart := false, laid := [("ragpicker/class.words", laid_ragpicker_class_words)] }
def ScanIdleSaid : Prop := scanIdleRow.holds Tryz.pinned (OpenSpec.ofChange scanIdleSpec)

/-- ITS FALSE NEIGHBOUR: 'it returns false'. Refute it at one input. -/
def scanIdleWrong : ChangeSpec := { name := "scanIdle", fn := fun _ => fun
  | [d1, d2] => { results := [.lit (.bool false)], args := [d1, d2] }
  | _ => none }
def ScanIdleWrongFalsely : Prop := scanIdleRow.holds Tryz.pinned (OpenSpec.ofChange scanIdleWrong)

/- THE SECOND FORM. 'bulk': how many values and letters a reading holds, each counted each time it is reached (what is shared counts as often as it is met; a slice's spare places count too). A statement '..UptoSaid' is the law's where the arguments, and the package variables that the reading takes, are together of bulk at most 1048576: NARROWER than '..Said'. Prove '..Said' where nothing that the law and all that it calls make is longer than what came in: it says more and counts as full. Else prove '..UptoSaid'. A law counts once. -/
mutual
def uptoBulk {H : Type} : DataW H → Nat
  | .lit (.string bytes) => bytes.length + 1
  | .lit _ => 1
  | .nil => 1
  | .ptr d => uptoBulk d + 1
  | .slice elems spare => uptoBulkAll elems + uptoBulkAll spare + 1
  | .agg parts => uptoBulkAll parts + 1
  | .iface _ d => uptoBulk d + 1
  | .map entries => uptoBulkEntries entries + 1
  | .held _ => 1
def uptoBulkAll {H : Type} : List (DataW H) → Nat
  | [] => 0
  | d :: r => uptoBulk d + uptoBulkAll r
def uptoBulkEntries {H : Type} : List (Lit × DataW H) → Nat
  | [] => 0
  | x :: r => uptoBulkEntry x + uptoBulkEntries r
def uptoBulkEntry {H : Type} : Lit × DataW H → Nat
  | (.string bytes, d) => bytes.length + uptoBulk d + 1
  | (_, d) => uptoBulk d + 1
 end
def uptoSmall : (H : Type) → List (DataW H) → Bool := fun _ ds => decide (uptoBulkAll ds ≤ 1048576)
def OpenSpec.upto (s : _root_.Go.ChangeSpec) : _root_.Go.OpenSpec := { _root_.Go.OpenSpec.ofChange s with cond := some uptoSmall }

/-- 'ragpickerlaw17.ScanSteps', WHERE WHAT IT READS IS OF BULK AT MOST 1048576: true; the input reads as it did. -/
def scanStepsUptoRow : OpenClaim := { program := "ytbbakbkmjhhbpaagreatdoor", sum := "7331d69099dceef9488115f592a568967740b2001b4e52566077b0f1d2991948", func := "ragpicker/ragpickerlaw17.ScanSteps", spec := "scanSteps", unfollowed := true, recurses := true, named := ["ragpicker/class.words"], apart := false, laid := [("ragpicker/class.words", laid_ragpicker_class_words)], narrowed := true }
def ScanStepsUptoSaid : Prop := scanStepsUptoRow.holds Tryz.pinned (OpenSpec.upto scanStepsSpec)

/-- 'ragpickerlaw17.ScanEnds', WHERE WHAT IT READS IS OF BULK AT MOST 1048576: true; the input reads as it did. -/
def scanEndsUptoRow : OpenClaim := { program := "ytbbakbkmjhhbpaagreatdoor", sum := "7331d69099dceef9488115f592a568967740b2001b4e52566077b0f1d2991948", func := "ragpicker/ragpickerlaw17.ScanEnds", spec := "scanEnds", unfollowed := true, recurses := true, named := ["ragpicker/class.words"], apart := false, laid := [("ragpicker/class.words", laid_ragpicker_class_words)], narrowed := true }
def ScanEndsUptoSaid : Prop := scanEndsUptoRow.holds Tryz.pinned (OpenSpec.upto scanEndsSpec)

/-- 'ragpickerlaw17.ScanCards', WHERE WHAT IT READS IS OF BULK AT MOST 1048576: true; the input reads as it did. -/
def scanCardsUptoRow : OpenClaim := { program := "ytbbakbkmjhhbpaagreatdoor", sum := "7331d69099dceef9488115f592a568967740b2001b4e52566077b0f1d2991948", func := "ragpicker/ragpickerlaw17.ScanCards", spec := "scanCards", unfollowed := true, recurses := true, named := ["ragpicker/class.words"], apart := false, laid := [("ragpicker/class.words", laid_ragpicker_class_words)], narrowed := true }
def ScanCardsUptoSaid : Prop := scanCardsUptoRow.holds Tryz.pinned (OpenSpec.upto scanCardsSpec)

/-- 'ragpickerlaw17.ScanKeeps', WHERE WHAT IT READS IS OF BULK AT MOST 1048576: true; the input reads as it did. -/
def scanKeepsUptoRow : OpenClaim := { program := "ytbbakbkmjhhbpaagreatdoor", sum := "7331d69099dceef9488115f592a568967740b2001b4e52566077b0f1d2991948", func := "ragpicker/ragpickerlaw17.ScanKeeps", spec := "scanKeeps", unfollowed := true, recurses := true, named := ["ragpicker/class.words"], apart := false, laid := [("ragpicker/class.words", laid_ragpicker_class_words)], narrowed := true }
def ScanKeepsUptoSaid : Prop := scanKeepsUptoRow.holds Tryz.pinned (OpenSpec.upto scanKeepsSpec)

/-- 'ragpickerlaw17.ScanYoung', WHERE WHAT IT READS IS OF BULK AT MOST 1048576: true; the input reads as it did. -/
def scanYoungUptoRow : OpenClaim := { program := "ytbbakbkmjhhbpaagreatdoor", sum := "7331d69099dceef9488115f592a568967740b2001b4e52566077b0f1d2991948", func := "ragpicker/ragpickerlaw17.ScanYoung", spec := "scanYoung", unfollowed := true, recurses := true, named := ["ragpicker/class.words"], apart := false, laid := [("ragpicker/class.words", laid_ragpicker_class_words)], narrowed := true }
def ScanYoungUptoSaid : Prop := scanYoungUptoRow.holds Tryz.pinned (OpenSpec.upto scanYoungSpec)

/-- 'ragpickerlaw17.ScanIdle', WHERE WHAT IT READS IS OF BULK AT MOST 1048576: true; the input reads as it did. -/
def scanIdleUptoRow : OpenClaim := { program := "ytbbakbkmjhhbpaagreatdoor", sum := "7331d69099dceef9488115f592a568967740b2001b4e52566077b0f1d2991948", func := "ragpicker/ragpickerlaw17.ScanIdle", spec := "scanIdle", unfollowed := true, recurses := true, named := ["ragpicker/class.words"], apart := false, laid := [("ragpicker/class.words", laid_ragpicker_class_words)], narrowed := true }
def ScanIdleUptoSaid : Prop := scanIdleUptoRow.holds Tryz.pinned (OpenSpec.upto scanIdleSpec)

end Rows
end Go.Proofs.YtbbakbkmjhhbpaaGreatDoor
