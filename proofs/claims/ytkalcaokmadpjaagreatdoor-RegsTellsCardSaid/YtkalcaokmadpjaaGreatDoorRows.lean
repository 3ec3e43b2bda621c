/-
  NARROWER THAN 'FOR EVERY INPUT', by the rows' own cells (each row's printed sentence says how): RegsTells: laid · HeapSets: laid · CardsTells: laid.
  DERIVED. THE GIVEN ROWS OF THIS SEAT. 3 by the template 'for every input the law returns true; each argument reads behind the call as it read before'; 0 by the template 'total and deterministic' (their statements: YtkalcaokmadpjaaGreatDoorTotals.lean).
  GIVEN WITH THE SEED: the statements are not yours to turn. If you find one false, say at which input.
  Laid BY PROGRAM, IN A SANDBOX (cutbox-rows.mjs): the forced cells as the released guide's own fill.sh prints them over the translation cf784902cecba9d1… (all of the seat's roots in one cut). By AI agents, Wed Nov 11 2026. No macro, syntax, notation, axiom, sorry.
-/
import Derived.Test.YtkalcaokmadpjaaGreatDoorChecked
import GoSem.Claim
import GoSem.ClaimJoined
import GoSem.ClaimMapViews
import Derived.JoinedTies
import Derived.KernelRfl
namespace Go.Proofs.YtkalcaokmadpjaaGreatDoor
/- THE CELL 'sum', in the pinned program and in every row, IS THE sha256 OF THE DUMP (.gsa) THAT YtkalcaokmadpjaaGreatDoorProg.lean LOADS. Nothing in Lean hashes anything: it is a label: what it is worth is what the hold of that sum in a sandbox is worth. -/
noncomputable def Tryz.pinned : Pinned := { name := "ytkalcaokmadpjaagreatdoor", sum := "cf784902cecba9d1e2846374e9f0c7293562cd77eaf5071c4a633f2f0c7ae076", checked := Tryz.checked }
namespace Rows
def none {H : Type} : Left H := { results := [], args := [] }

/- WHAT THE LISTED PACKAGE-LEVEL VARIABLES READ AS WHEN THE CALL BEGINS. Each datum BY PROGRAM (the guide's laid-datum.mjs) off the statement by which the dump's own 'gosem.cut.vars' lays the variable. In a bare row this is a premise. The card (YtkalcaokmadpjaaGreatDoorCards.lean) ties it to the program's text. -/
def laid_ragpicker_class_words {H : Type} : DataW H := .agg [.lit (.int .i64 2), .lit (.int .i64 4), .lit (.int .i64 8)]

/-- 'ragpickerlaw12.RegsTells': WHATEVER THE INPUT: true; the input reads as it did. -/
def regsTellsSpec : ChangeSpec := { name := "regsTells", fn := fun _ => fun
  | [d1, d2, d3, d4, d5] => { results := [.lit (.bool true)], args := [d1, d2, d3, d4, d5] }
  | _ => none }
def regsTellsRow : OpenClaim := { program := "ytkalcaokmadpjaagreatdoor", sum := "cf784902cecba9d1e2846374e9f0c7293562cd77eaf5071c4a633f2f0c7ae076", func := "ragpicker/ragpickerlaw12.RegsTells", spec := "regsTells", unfollowed := true, recurses := true, named := ["ragpicker/class.words"], apart := false, laid := [("ragpicker/class.words", laid_ragpicker_class_words)] }
def RegsTellsSaid : Prop := regsTellsRow.holds Tryz.pinned (OpenSpec.ofChange regsTellsSpec)

/-- ITS FALSE NEIGHBOUR: 'it returns false'. Refute it at one input. -/
def regsTellsWrong : ChangeSpec := { name := "regsTells", fn := fun _ => fun
  | [d1, d2, d3, d4, d5] => { results := [.lit (.bool false)], args := [d1, d2, d3, d4, d5] }
  | _ => none }
def RegsTellsWrongFalsely : Prop := regsTellsRow.holds Tryz.pinned (OpenSpec.ofChange regsTellsWrong)

/-- 'ragpickerlaw07.HeapSets': WHATEVER THE INPUT: true; the input reads as it did. -/
def heapSetsSpec : ChangeSpec := { name := "heapSets", fn := fun _ => fun
  | [d1, d2, d3, d4] => { results := [.lit (.bool true)], args := [d1, d2, d3, d4] }
  | _ => none }
def heapSetsRow : OpenClaim := { program := "ytkalcaokmadpjaagreatdoor", sum := "cf784902cecba9d1e2846374e9f0c7293562cd77eaf5071c4a633f2f0c7ae076", func := "ragpicker/ragpickerlaw07.HeapSets", spec := "heapSets", unfollowed := true, recurses := true, named := ["ragpicker/class.words"], apart := false, laid := [("ragpicker/class.words", laid_ragpicker_class_words)] }
def HeapSetsSaid : Prop := heapSetsRow.holds Tryz.pinned (OpenSpec.ofChange heapSetsSpec)

/-- ITS FALSE NEIGHBOUR: 'it returns false'. Refute it at one input. -/
def heapSetsWrong : ChangeSpec := { name := "heapSets", fn := fun _ => fun
  | [d1, d2, d3, d4] => { results := [.lit (.bool false)], args := [d1, d2, d3, d4] }
  | _ => none }
def HeapSetsWrongFalsely : Prop := heapSetsRow.holds Tryz.pinned (OpenSpec.ofChange heapSetsWrong)

/-- 'ragpickerlaw10.CardsTells': WHATEVER THE INPUT: true; the input reads as it did. -/
def cardsTellsSpec : ChangeSpec := { name := "cardsTells", fn := fun _ => fun
  | [d1, d2, d3] => { results := [.lit (.bool true)], args := [d1, d2, d3] }
  | _ => none }
def cardsTellsRow : OpenClaim := { program := "ytkalcaokmadpjaagreatdoor", sum := "cf784902cecba9d1e2846374e9f0c7293562cd77eaf5071c4a633f2f0c7ae076", func := "ragpicker/ragpickerlaw10.CardsTells", spec := "cardsTells", unfollowed := true, recurses := true, named := ["ragpicker/class.words"], apart := false, laid := [("ragpicker/class.words", laid_ragpicker_class_words)] }
def CardsTellsSaid : Prop := cardsTellsRow.holds Tryz.pinned (OpenSpec.ofChange cardsTellsSpec)

/-- ITS FALSE NEIGHBOUR: 'it returns false'. Refute it at one input. -/
def cardsTellsWrong : ChangeSpec := { name := "cardsTells", fn := fun _ => fun
  | [d1, d2, d3] => { results := [.lit (.bool false)], args := [d1, d2, d3] }
  | _ => none }
def CardsTellsWrongFalsely : Prop := cardsTellsRow.holds Tryz.pinned (OpenSpec.ofChange cardsTellsWrong)

/- THE SECOND FORM. 'bulk': how many values and letters a reading holds, each counted each time it is reached (what is shared counts as often as it is met; a slice's spare places count too). A statement '..UptoSaid' is the law's where the arguments, and the package variables that the reading takes, are together of bulk at most 1048576: NARROWER than '..Said'. Prove '..Said' where nothing that the law and all that it calls make is longer than what came in: it says more and counts as full. Else prove '..UptoSaid'. A law counts once. -/
mutual
def uptoBulk {H : Type} : DataW H → Nat
  | .lit (.string bytes) => bytes.length + 1
  | .lit _ => 1
  | .nil => 1
  | .ptr d => uptoBulk d + 1
  | .slice elems spare => uptoBulkAll elems + uptoBulkAll spare + 1
  | .agg parts => uptoBulkAll parts + 1
  | .iface _ d => uptoBulk d + 1
  | .map entries => uptoBulkEntries entries + 1
  | .held _ => 1
def uptoBulkAll {H : Type} : List (DataW H) → Nat
  | [] => 0
  | d :: r => uptoBulk d + uptoBulkAll r
def uptoBulkEntries {H : Type} : List (Lit × DataW H) → Nat
  | [] => 0
  | x :: r => uptoBulkEntry x + uptoBulkEntries r
def uptoBulkEntry {H : Type} : Lit × DataW H → Nat
  | (.string bytes, d) => bytes.length + uptoBulk d + 1
  | (_, d) => uptoBulk d + 1
 end
def uptoSmall : (H : Type) → List (DataW H) → Bool := fun _ ds => decide (uptoBulkAll ds ≤ 1048576)
def OpenSpec.upto (s : _root_.Go.ChangeSpec) : _root_.Go.OpenSpec := { _root_.Go.OpenSpec.ofChange s with cond := some uptoSmall }

/-- 'ragpickerlaw12.RegsTells', WHERE WHAT IT READS IS OF BULK AT MOST 1048576: true; the input reads as it did. -/
def regsTellsUptoRow : OpenClaim := { program := "ytkalcaokmadpjaagreatdoor", sum := "cf784902cecba9d1e2846374e9f0c7293562cd77eaf5071c4a633f2f0c7ae076", func := "ragpicker/ragpickerlaw12.RegsTells", spec := "regsTells", unfollowed := true, recurses := true, named := ["ragpicker/class.words"], apart := false, laid := [("ragpicker/class.words", laid_ragpicker_class_words)], narrowed := true }
def RegsTellsUptoSaid : Prop := regsTellsUptoRow.holds Tryz.pinned (OpenSpec.upto regsTellsSpec)

/-- 'ragpickerlaw07.HeapSets', WHERE WHAT IT READS IS OF BULK AT MOST 1048576: true; the input reads as it did. -/
def heapSetsUptoRow : OpenClaim := { program := "ytkalcaokmadpjaagreatdoor", sum := "cf784902cecba9d1e2846374e9f0c7293562cd77eaf5071c4a633f2f0c7ae076", func := "ragpicker/ragpickerlaw07.HeapSets", spec := "heapSets", unfollowed := true, recurses := true, named := ["ragpicker/class.words"], apart := false, laid := [("ragpicker/class.words", laid_ragpicker_class_words)], narrowed := true }
def HeapSetsUptoSaid : Prop := heapSetsUptoRow.holds Tryz.pinned (OpenSpec.upto heapSetsSpec)

/-- 'ragpickerlaw10.CardsTells', WHERE WHAT IT READS IS OF BULK AT MOST 1048576: true; the input reads as it did. -/
def cardsTellsUptoRow : OpenClaim := { program := "ytkalcaokmadpjaagreatdoor", sum := "cf784902cecba9d1e2846374e9f0c7293562cd77eaf5071c4a633f2f0c7ae076", func := "ragpicker/ragpickerlaw10.CardsTells", spec := "cardsTells", unfollowed := true, recurses := true, named := ["ragpicker/class.words"], apart := false, laid := [("ragpicker/class.words", laid_ragpicker_class_words)], narrowed := true }
def CardsTellsUptoSaid : Prop := cardsTellsUptoRow.holds Tryz.pinned (OpenSpec.upto cardsTellsSpec)

end Rows
end Go.Proofs.YtkalcaokmadpjaaGreatDoor
