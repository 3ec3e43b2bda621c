/-
  NARROWER THAN 'FOR EVERY INPUT', by the rows' own cells (each row's printed sentence says how): CardsTwice: laid · HeapTells: laid · HeapWords: laid · HeapNew: laid · HeapUsed: laid · HeapLess: laid · CardsKeep: laid · RegsObject: laid · CardsWords: laid · CardsNone: laid · HeapKeeps: laid · CardsAll: laid · ShadeKeeps: laid · ShadeAll: laid · ShadeEpoch: laid · ShadeNone: laid.
  DERIVED. THE GIVEN ROWS OF THIS SEAT. 16 by the template 'for every input the law returns true; each argument reads behind the call as it read before'; 0 by the template 'total and deterministic' (their statements: YtkalcaokmadpjaaDoorTotals.lean).
  GIVEN WITH THE SEED: the statements are not yours to turn. If you find one false, say at which input.
  Laid BY PROGRAM, IN A SANDBOX (cutbox-rows.mjs): the forced cells as the released guide's own fill.sh prints them over the translation c8ec8563c77c4268… (all of the seat's roots in one cut). By AI agents, Wed Nov 11 2026. No macro, syntax, notation, axiom, sorry.
-/
import Derived.Test.YtkalcaokmadpjaaDoorChecked
import GoSem.Claim
import GoSem.ClaimJoined
import GoSem.ClaimMapViews
import Derived.JoinedTies
import Derived.KernelRfl
namespace Go.Proofs.YtkalcaokmadpjaaDoor
/- THE CELL 'sum', in the pinned program and in every row, IS THE sha256 OF THE DUMP (.gsa) THAT YtkalcaokmadpjaaDoorProg.lean LOADS. Nothing in Lean hashes anything: it is a label: what it is worth is what the hold of that sum in a sandbox is worth. -/
noncomputable def Tryd.pinned : Pinned := { name := "ytkalcaokmadpjaadoor", sum := "c8ec8563c77c4268186509c1a84bb8fca8d8a8f590f3d18ae601409250a5b785", checked := Tryd.checked }
namespace Rows
def none {H : Type} : Left H := { results := [], args := [] }

/- WHAT THE LISTED PACKAGE-LEVEL VARIABLES READ AS WHEN THE CALL BEGINS. Each datum BY PROGRAM (the guide's laid-datum.mjs) off the statement by which the dump's own 'gosem.cut.vars' lays the variable. In a bare row this is a premise. The card (YtkalcaokmadpjaaDoorCards.lean) ties it to the program's text. -/
def laid_ragpicker_class_words {H : Type} : DataW H := .agg [.lit (.int .i64 2), .lit (.int .i64 4), .lit (.int .i64 8)]

/-- 'ragpickerlaw10.CardsTwice': WHATEVER THE INPUT: true; the input reads as it did. -/
def cardsTwiceSpec : ChangeSpec := { name := "cardsTwice", fn := fun _ => fun
  | [d1, d2, d3] => { results := [.lit (.bool true)], args := [d1, d2, d3] }
  | _ => none }
def cardsTwiceRow : OpenClaim := { program := "ytkalcaokmadpjaadoor", sum := "c8ec8563c77c4268186509c1a84bb8fca8d8a8f590f3d18ae601409250a5b785", func := "ragpicker/ragpickerlaw10.CardsTwice", spec := "cardsTwice", unfollowed := true, recurses := true, named := ["ragpicker/class.words"], apart := false, laid := [("ragpicker/class.words", laid_ragpicker_class_words)] }
def CardsTwiceSaid : Prop := cardsTwiceRow.holds Tryd.pinned (OpenSpec.ofChange cardsTwiceSpec)

/-- ITS FALSE NEIGHBOUR: 'it returns false'. Refute it at one input. -/
def cardsTwiceWrong : ChangeSpec := { name := "cardsTwice", fn := fun _ => fun
  | [d1, d2, d3] => { results := [.lit (.bool false)], args := [d1, d2, d3] }
  | _ => none }
def CardsTwiceWrongFalsely : Prop := cardsTwiceRow.holds Tryd.pinned (OpenSpec.ofChange cardsTwiceWrong)

/-- 'ragpickerlaw07.HeapTells': WHATEVER THE INPUT: true; the input reads as it did. -/
def heapTellsSpec : ChangeSpec := { name := "heapTells", fn := fun _ => fun
  | [d1, d2, d3] => { results := [.lit (.bool true)], args := [d1, d2, d3] }
  | _ => none }
def heapTellsRow : OpenClaim := { program := "ytkalcaokmadpjaadoor", sum := "c8ec8563c77c4268186509c1a84bb8fca8d8a8f590f3d18ae601409250a5b785", func := "ragpicker/ragpickerlaw07.HeapTells", spec := "heapTells", unfollowed := true, recurses := true, named := ["ragpicker/class.words"], apart := false, laid := [("ragpicker/class.words", laid_ragpicker_class_words)] }
def HeapTellsSaid : Prop := heapTellsRow.holds Tryd.pinned (OpenSpec.ofChange heapTellsSpec)

/-- ITS FALSE NEIGHBOUR: 'it returns false'. Refute it at one input. -/
def heapTellsWrong : ChangeSpec := { name := "heapTells", fn := fun _ => fun
  | [d1, d2, d3] => { results := [.lit (.bool false)], args := [d1, d2, d3] }
  | _ => none }
def HeapTellsWrongFalsely : Prop := heapTellsRow.holds Tryd.pinned (OpenSpec.ofChange heapTellsWrong)

/-- 'ragpickerlaw07.HeapWords': WHATEVER THE INPUT: true; the input reads as it did. -/
def heapWordsSpec : ChangeSpec := { name := "heapWords", fn := fun _ => fun
  | [d1, d2] => { results := [.lit (.bool true)], args := [d1, d2] }
  | _ => none }
def heapWordsRow : OpenClaim := { program := "ytkalcaokmadpjaadoor", sum := "c8ec8563c77c4268186509c1a84bb8fca8d8a8f590f3d18ae601409250a5b785", func := "ragpicker/ragpickerlaw07.HeapWords", spec := "heapWords", unfollowed := true, recurses := true, named := ["ragpicker/class.words"], apart := false, laid := [("ragpicker/class.words", laid_ragpicker_class_words)] }
def HeapWordsSaid : Prop := heapWordsRow.holds Tryd.pinned (OpenSpec.ofChange heapWordsSpec)

/-- ITS FALSE NEIGHBOUR: 'it returns false'. Refute it at one input. -/
def heapWordsWrong : ChangeSpec := { name := "heapWords", fn := fun _ => fun
  | [d1, d2] => { results := [.lit (.bool false)], args := [d1, d2] }
  | _ => none }
def HeapWordsWrongFalsely : Prop := heapWordsRow.holds Tryd.pinned (OpenSpec.ofChange heapWordsWrong)

/-- 'ragpickerlaw07.HeapNew': WHATEVER THE INPUT: true; the input reads as it did. -/
def heapNewSpec : ChangeSpec := { name := "heapNew", fn := fun _ => fun
  | [d] => { results := [.lit (.bool true)], args := [d] }
  | _ => none }
def heapNewRow : OpenClaim := { program := "ytkalcaokmadpjaadoor", sum := "c8ec8563c77c4268186509c1a84bb8fca8d8a8f590f3d18ae601409250a5b785", func := "ragpicker/ragpickerlaw07.HeapNew", spec := "heapNew", unfollowed := true, recurses := true, named := ["ragpicker/class.words"], apart := false, laid := [("ragpicker/class.words", laid_ragpicker_class_words)] }
def HeapNewSaid : Prop := heapNewRow.holds Tryd.pinned (OpenSpec.ofChange heapNewSpec)

/-- ITS FALSE NEIGHBOUR: 'it returns false'. Refute it at one input. -/
def heapNewWrong : ChangeSpec := { name := "heapNew", fn := fun _ => fun
  | [d] => { results := [.lit (.bool false)], args := [d] }
  | _ => none }
def HeapNewWrongFalsely : Prop := heapNewRow.holds Tryd.pinned (OpenSpec.ofChange heapNewWrong)

/-- 'ragpickerlaw07.HeapUsed': WHATEVER THE INPUT: true; the input reads as it did. -/
def heapUsedSpec : ChangeSpec := { name := "heapUsed", fn := fun _ => fun
  | [d] => { results := [.lit (.bool true)], args := [d] }
  | _ => none }
def heapUsedRow : OpenClaim := { program := "ytkalcaokmadpjaadoor", sum := "c8ec8563c77c4268186509c1a84bb8fca8d8a8f590f3d18ae601409250a5b785", func := "ragpicker/ragpickerlaw07.HeapUsed", spec := "heapUsed", unfollowed := true, recurses := true, named := ["ragpicker/class.words"], apart := false, laid := [("ragpicker/class.words", laid_ragpicker_class_words)] }
def HeapUsedSaid : Prop := heapUsedRow.holds Tryd.pinned (OpenSpec.ofChange heapUsedSpec)

/-- ITS FALSE NEIGHBOUR: 'it returns false'. Refute it at one input. -/
def heapUsedWrong : ChangeSpec := { name := "heapUsed", fn := fun _ => fun
  | [d] => { results := [.lit (.bool false)], args := [d] }
  | _ => none }
def HeapUsedWrongFalsely : Prop := heapUsedRow.holds Tryd.pinned (OpenSpec.ofChange heapUsedWrong)

/-- 'ragpickerlaw07.HeapLess': WHATEVER THE INPUT: true; the input reads as it did. -/
def heapLessSpec : ChangeSpec := { name := "heapLess", fn := fun _ => fun
  | [d1, d2] => { results := [.lit (.bool true)], args := [d1, d2] }
  | _ => none }
def heapLessRow : OpenClaim := { program := "ytkalcaokmadpjaadoor", sum := "c8ec8563c77c4268186509c1a84bb8fca8d8a8f590f3d18ae601409250a5b785", func := "ragpicker/ragpickerlaw07.HeapLess", spec := "heapLess", unfollowed := true, recurses := true, named := ["ragpicker/class.words"], apart := false, laid := [("ragpicker/class.words", laid_ragpicker_class_words)] }
def HeapLessSaid : Prop := heapLessRow.holds Tryd.pinned (OpenSpec.ofChange heapLessSpec)

/-- ITS FALSE NEIGHBOUR: 'it returns false'. Refute it at one input. -/
def heapLessWrong : ChangeSpec := { name := "heapLess", fn := fun _ => fun
  | [d1, d2] => { results := [.lit (.bool false)], args := [d1, d2] }
  | _ => none }
def HeapLessWrongFalsely : Prop := heapLessRow.holds Tryd.pinned (OpenSpec.ofChange heapLessWrong)

/-- 'ragpickerlaw10.CardsKeep': WHATEVER THE INPUT: true; the input reads as it did. -/
def cardsKeepSpec : ChangeSpec := { name := "cardsKeep", fn := fun _ => fun
  | [d1, d2] => { results := [.lit (.bool true)], args := [d1, d2] }
  | _ => none }
def cardsKeepRow : OpenClaim := { program := "ytkalcaokmadpjaadoor", sum := "c8ec8563c77c4268186509c1a84bb8fca8d8a8f590f3d18ae601409250a5b785", func := "ragpicker/ragpickerlaw10.CardsKeep", spec := "cardsKeep", unfollowed := true, recurses := true, named := ["ragpicker/class.words"], apart := false, laid := [("ragpicker/class.words", laid_ragpicker_class_words)] }
def CardsKeepSaid : Prop := cardsKeepRow.holds Tryd.pinned (OpenSpec.ofChange cardsKeepSpec)

/-- ITS FALSE NEIGHBOUR: 'it returns false'. Refute it at one input. -/
def cardsKeepWrong : ChangeSpec := { name := "cardsKeep", fn := fun _ => fun
  | [d1, d2] => { results := [.lit (.bool false)], args := [d1, d2] }
  | _ => none }
def CardsKeepWrongFalsely : Prop := cardsKeepRow.holds Tryd.pinned (OpenSpec.ofChange cardsKeepWrong)

/-- 'ragpickerlaw12.RegsObject': WHATEVER THE INPUT: true; the input reads as it did. -/
def regsObjectSpec : ChangeSpec := { name := "regsObject", fn := fun _ => fun
  | [d1, d2, d3] => { results := [.lit (.bool true)], args := [d1, d2, d3] }
  | _ => none }
def regsObjectRow : OpenClaim := { program := "ytkalcaokmadpjaadoor", sum := "c8ec8563c77c4268186509c1a84bb8fca8d8a8f590f3d18ae601409250a5b785", func := "ragpicker/ragpickerlaw12.RegsObject", spec := "regsObject", unfollowed := true, recurses := true, named := ["ragpicker/class.words"], apart := false, laid := [("ragpicker/class.words", laid_ragpicker_class_words)] }
def RegsObjectSaid : Prop := regsObjectRow.holds Tryd.pinned (OpenSpec.ofChange regsObjectSpec)

/-- ITS FALSE NEIGHBOUR: 'it returns false'. Refute it at one input. -/
def regsObjectWrong : ChangeSpec := { name := "regsObject", fn := fun _ => fun
  | [d1, d2, d3] => { results := [.lit (.bool false)], args := [d1, d2, d3] }
  | _ => none }
def RegsObjectWrongFalsely : Prop := regsObjectRow.holds Tryd.pinned (OpenSpec.ofChange regsObjectWrong)

/-- 'ragpickerlaw10.CardsWords': WHATEVER THE INPUT: true; the input reads as it did. -/
def cardsWordsSpec : ChangeSpec := { name := "cardsWords", fn := fun _ => fun
  | [d1, d2, d3, d4] => { results := [.lit (.bool true)], args := [d1, d2, d3, d4] }
  | _ => none }
def cardsWordsRow : OpenClaim := { program := "ytkalcaokmadpjaadoor", sum := "c8ec8563c77c4268186509c1a84bb8fca8d8a8f590f3d18ae601409250a5b785", func := "ragpicker/ragpickerlaw10.CardsWords", spec := "cardsWords", unfollowed := true, recurses := true, named := ["ragpicker/class.words"], apart := false, laid := [("ragpicker/class.words", laid_ragpicker_class_words)] }
def CardsWordsSaid : Prop := cardsWordsRow.holds Tryd.pinned (OpenSpec.ofChange cardsWordsSpec)

/-- ITS FALSE NEIGHBOUR: 'it returns false'. Refute it at one input. -/
def cardsWordsWrong : ChangeSpec := { name := "cardsWords", fn := fun _ => fun
  | [d1, d2, d3, d4] => { results := [.lit (.bool false)], args := [d1, d2, d3, d4] }
  | _ => none }
def CardsWordsWrongFalsely : Prop := cardsWordsRow.holds Tryd.pinned (OpenSpec.ofChange cardsWordsWrong)

/-- 'ragpickerlaw10.CardsNone': WHATEVER THE INPUT: true; the input reads as it did. -/
def cardsNoneSpec : ChangeSpec := { name := "cardsNone", fn := fun _ => fun
  | [d1, d2, d3] => { results := [.lit (.bool true)], args := [d1, d2, d3] }
  | _ => none }
def cardsNoneRow : OpenClaim := { program := "ytkalcaokmadpjaadoor", sum := "c8ec8563c77c4268186509c1a84bb8fca8d8a8f590f3d18ae601409250a5b785", func := "ragpicker/ragpickerlaw10.CardsNone", spec := "cardsNone", unfollowed := true, recurses := true, named := ["ragpicker/class.words"], apart := false, laid := [("ragpicker/class.words", laid_ragpicker_class_words)] }
def CardsNoneSaid : Prop := cardsNoneRow.holds Tryd.pinned (OpenSpec.ofChange cardsNoneSpec)

/-- ITS FALSE NEIGHBOUR: 'it returns false'. Refute it at one input. -/
def cardsNoneWrong : ChangeSpec := { name := "cardsNone", fn := fun _ => fun
  | [d1, d2, d3] => { results := [.lit (.bool false)], args := [d1, d2, d3] }
  | _ => none }
def CardsNoneWrongFalsely : Prop := cardsNoneRow.holds Tryd.pinned (OpenSpec.ofChange cardsNoneWrong)

/-- 'ragpickerlaw07.HeapKeeps': WHATEVER THE INPUT: true; the input reads as it did. -/
def heapKeepsSpec : ChangeSpec := { name := "heapKeeps", fn := fun _ => fun
  | [d1, d2, d3] => { results := [.lit (.bool true)], args := [d1, d2, d3] }
  | _ => none }
def heapKeepsRow : OpenClaim := { program := "ytkalcaokmadpjaadoor", sum := "c8ec8563c77c4268186509c1a84bb8fca8d8a8f590f3d18ae601409250a5b785", func := "ragpicker/ragpickerlaw07.HeapKeeps", spec := "heapKeeps", unfollowed := true, recurses := true, named := ["ragpicker/class.words"], apart := false, laid := [("ragpicker/class.words", laid_ragpicker_class_words)] }
def HeapKeepsSaid : Prop := heapKeepsRow.holds Tryd.pinned (OpenSpec.ofChange heapKeepsSpec)

/-- ITS FALSE NEIGHBOUR: 'it returns false'. Refute it at one input. -/
def heapKeepsWrong : ChangeSpec := { name := "heapKeeps", fn := fun _ => fun
  | [d1, d2, d3] => { results := [.lit (.bool false)], args := [d1, d2, d3] }
  | _ => none }
def HeapKeepsWrongFalsely : Prop := heapKeepsRow.holds Tryd.pinned (OpenSpec.ofChange heapKeepsWrong)

/-- 'ragpickerlaw10.CardsAll': WHATEVER THE INPUT: true; the input reads as it did. -/
def cardsAllSpec : ChangeSpec := { name := "cardsAll", fn := fun _ => fun
  | [d1, d2] => { results := [.lit (.bool true)], args := [d1, d2] }
  | _ => none }
def cardsAllRow : OpenClaim := { program := "ytkalcaokmadpjaadoor", sum := "c8ec8563c77c4268186509c1a84bb8fca8d8a8f590f3d18ae601409250a5b785", func := "ragpicker/ragpickerlaw10.CardsAll", spec := "cardsAll", unfollowed := true, recurses := true, named := ["ragpicker/class.words"], apart := false, laid := [("ragpicker/class.words", laid_ragpicker_class_words)] }
def CardsAllSaid : Prop := cardsAllRow.holds Tryd.pinned (OpenSpec.ofChange cardsAllSpec)

/-- ITS FALSE NEIGHBOUR: 'it returns false'. Refute it at one input. -/
def cardsAllWrong : ChangeSpec := { name := "cardsAll", fn := fun _ => fun
  | [d1, d2] => { results := [.lit (.bool false)], args := [d1, d2] }
  | _ => none }
def CardsAllWrongFalsely : Prop := cardsAllRow.holds Tryd.pinned (OpenSpec.ofChange cardsAllWrong)

/-- 'ragpickerlaw11.ShadeKeeps': WHATEVER THE INPUT: true; the input reads as it did. -/
def shadeKeepsSpec : ChangeSpec := { name := "shadeKeeps", fn := fun _ => fun
  | [d1, d2, d3] => { results := [.lit (.bool true)], args := [d1, d2, d3] }
  | _ => none }
def shadeKeepsRow : OpenClaim := { program := "ytkalcaokmadpjaadoor", sum := "c8ec8563c77c4268186509c1a84bb8fca8d8a8f590f3d18ae601409250a5b785", func := "ragpicker/ragpickerlaw11.ShadeKeeps", spec := "shadeKeeps", unfollowed := true, recurses := true, named := ["ragpicker/class.words"], apart := false, laid := [("ragpicker/class.words", laid_ragpicker_class_words)] }
def ShadeKeepsSaid : Prop := shadeKeepsRow.holds Tryd.pinned (OpenSpec.ofChange shadeKeepsSpec)

/-- ITS FALSE NEIGHBOUR: 'it returns false'. Refute it at one input. -/
def shadeKeepsWrong : ChangeSpec := { name := "shadeKeeps", fn := fun _ => fun
  | [d1, d2, d3] => { results := [.lit (.bool false)], args := [d1, d2, d3] }
  | _ => none }
def ShadeKeepsWrongFalsely : Prop := shadeKeepsRow.holds Tryd.pinned (OpenSpec.ofChange shadeKeepsWrong)

/-- 'ragpickerlaw11.ShadeAll': WHATEVER THE INPUT: true; the input reads as it did. -/
def shadeAllSpec : ChangeSpec := { name := "shadeAll", fn := fun _ => fun
  | [d1, d2] => { results := [.lit (.bool true)], args := [d1, d2] }
  | _ => none }
def shadeAllRow : OpenClaim := { program := "ytkalcaokmadpjaadoor", sum := "c8ec8563c77c4268186509c1a84bb8fca8d8a8f590f3d18ae601409250a5b785", func := "ragpicker/ragpickerlaw11.ShadeAll", spec := "shadeAll", unfollowed := true, recurses := true, named := ["ragpicker/class.words"], apart := false, laid := [("ragpicker/class.words", laid_ragpicker_class_words)] }
def ShadeAllSaid : Prop := shadeAllRow.holds Tryd.pinned (OpenSpec.ofChange shadeAllSpec)

/-- ITS FALSE NEIGHBOUR: 'it returns false'. Refute it at one input. -/
def shadeAllWrong : ChangeSpec := { name := "shadeAll", fn := fun _ => fun
  | [d1, d2] => { results := [.lit (.bool false)], args := [d1, d2] }
  | _ => none }
def ShadeAllWrongFalsely : Prop := shadeAllRow.holds Tryd.pinned (OpenSpec.ofChange shadeAllWrong)

/-- 'ragpickerlaw11.ShadeEpoch': WHATEVER THE INPUT: true; the input reads as it did. -/
def shadeEpochSpec : ChangeSpec := { name := "shadeEpoch", fn := fun _ => fun
  | [d1, d2] => { results := [.lit (.bool true)], args := [d1, d2] }
  | _ => none }
def shadeEpochRow : OpenClaim := { program := "ytkalcaokmadpjaadoor", sum := "c8ec8563c77c4268186509c1a84bb8fca8d8a8f590f3d18ae601409250a5b785", func := "ragpicker/ragpickerlaw11.ShadeEpoch", spec := "shadeEpoch", unfollowed := true, recurses := true, named := ["ragpicker/class.words"], apart := false, laid := [("ragpicker/class.words", laid_ragpicker_class_words)] }
def ShadeEpochSaid : Prop := shadeEpochRow.holds Tryd.pinned (OpenSpec.ofChange shadeEpochSpec)

/-- ITS FALSE NEIGHBOUR: 'it returns false'. Refute it at one input. -/
def shadeEpochWrong : ChangeSpec := { name := "shadeEpoch", fn := fun _ => fun
  | [d1, d2] => { results := [.lit (.bool false)], args := [d1, d2] }
  | _ => none }
def ShadeEpochWrongFalsely : Prop := shadeEpochRow.holds Tryd.pinned (OpenSpec.ofChange shadeEpochWrong)

/-- 'ragpickerlaw11.ShadeNone': WHATEVER THE INPUT: true; the input reads as it did. -/
def shadeNoneSpec : ChangeSpec := { name := "shadeNone", fn := fun _ => fun
  | [d1, d2, d3] => { results := [.lit (.bool true)], args := [d1, d2, d3] }
  | _ => none }
def shadeNoneRow : OpenClaim := { program := "ytkalcaokmadpjaadoor", sum := "c8ec8563c77c4268186509c1a84bb8fca8d8a8f590f3d18ae601409250a5b785", func := "ragpicker/ragpickerlaw11.ShadeNone", spec := "shadeNone", unfollowed := true, recurses := true, named := ["ragpicker/class.words"], apart := false, laid := [("ragpicker/class.words", laid_ragpicker_class_words)] }
def ShadeNoneSaid : Prop := shadeNoneRow.holds Tryd.pinned (OpenSpec.ofChange shadeNoneSpec)

/-- ITS FALSE NEIGHBOUR: 'it returns false'. Refute it at one input. -/
def shadeNoneWrong : ChangeSpec := { name := "shadeNone", fn := fun _ => fun
  | [d1, d2, d3] => { results := [.lit (.bool false)], args := [d1, d2, d3] }
  | _ => none }
def ShadeNoneWrongFalsely : Prop := shadeNoneRow.holds Tryd.pinned (OpenSpec.ofChange shadeNoneWrong)

/- THE SECOND FORM. 'bulk': how many values and letters a reading holds, each counted each time it is reached (what is shared counts as often as it is met; a slice's spare places count too). A statement '..UptoSaid' is the law's where the arguments, and the package variables that the reading takes, are together of bulk at most 1048576: NARROWER than '..Said'. Prove '..Said' where nothing that the law and all that it calls make is longer than what came in: it says more and counts as full. Else prove '..UptoSaid'. A law counts once. -/
mutual
def uptoBulk {H : Type} : DataW H → Nat
  | .lit (.string bytes) => bytes.length + 1
  | .lit _ => 1
  | .nil => 1
  | .ptr d => uptoBulk d + 1
  | .slice elems spare => uptoBulkAll elems + uptoBulkAll spare + 1
  | .agg parts => uptoBulkAll parts + 1
  | .iface _ d => uptoBulk d + 1
  | .map entries => uptoBulkEntries entries + 1
  | .held _ => 1
def uptoBulkAll {H : Type} : List (DataW H) → Nat
  | [] => 0
  | d :: r => uptoBulk d + uptoBulkAll r
def uptoBulkEntries {H : Type} : List (Lit × DataW H) → Nat
  | [] => 0
  | x :: r => uptoBulkEntry x + uptoBulkEntries r
def uptoBulkEntry {H : Type} : Lit × DataW H → Nat
  | (.string bytes, d) => bytes.length + uptoBulk d + 1
  | (_, d) => uptoBulk d + 1
 end
def uptoSmall : (H : Type) → List (DataW H) → Bool := fun _ ds => decide (uptoBulkAll ds ≤ 1048576)
def OpenSpec.upto (s : _root_.Go.ChangeSpec) : _root_.Go.OpenSpec := { _root_.Go.OpenSpec.ofChange s with cond := some uptoSmall }

/-- 'ragpickerlaw10.CardsTwice', WHERE WHAT IT READS IS OF BULK AT MOST 1048576: true; the input reads as it did. -/
def cardsTwiceUptoRow : OpenClaim := { program := "ytkalcaokmadpjaadoor", sum := "c8ec8563c77c4268186509c1a84bb8fca8d8a8f590f3d18ae601409250a5b785", func := "ragpicker/ragpickerlaw10.CardsTwice", spec := "cardsTwice", unfollowed := true, recurses := true, named := ["ragpicker/class.words"], apart := false, laid := [("ragpicker/class.words", laid_ragpicker_class_words)], narrowed := true }
def CardsTwiceUptoSaid : Prop := cardsTwiceUptoRow.holds Tryd.pinned (OpenSpec.upto cardsTwiceSpec)

/-- 'ragpickerlaw07.HeapTells', WHERE WHAT IT READS IS OF BULK AT MOST 1048576: true; the input reads as it did. -/
def heapTellsUptoRow : OpenClaim := { program := "ytkalcaokmadpjaadoor", sum := "c8ec8563c77c4268186509c1a84bb8fca8d8a8f590f3d18ae601409250a5b785", func := "ragpicker/ragpickerlaw07.HeapTells", spec := "heapTells", unfollowed := true, recurses := true, named := ["ragpicker/class.words"], apart := false, laid := [("ragpicker/class.words", laid_ragpicker_class_words)], narrowed := true }
def HeapTellsUptoSaid : Prop := heapTellsUptoRow.holds Tryd.pinned (OpenSpec.upto heapTellsSpec)

/-- 'ragpickerlaw07.HeapWords', WHERE WHAT IT READS IS OF BULK AT MOST 1048576: true; the input reads as it did. -/
def heapWordsUptoRow : OpenClaim := { program := "ytkalcaokmadpjaadoor", sum := "c8ec8563c77c4268186509c1a84bb8fca8d8a8f590f3d18ae601409250a5b785", func := "ragpicker/ragpickerlaw07.HeapWords", spec := "heapWords", unfollowed := true, recurses := true, named := ["ragpicker/class.words"], apart := false, laid := [("ragpicker/class.words", laid_ragpicker_class_words)], narrowed := true }
def HeapWordsUptoSaid : Prop := heapWordsUptoRow.holds Tryd.pinned (OpenSpec.upto heapWordsSpec)

/-- 'ragpickerlaw07.HeapNew', WHERE WHAT IT READS IS OF BULK AT MOST 1048576: true; the input reads as it did. -/
def heapNewUptoRow : OpenClaim := { program := "ytkalcaokmadpjaadoor", sum := "c8ec8563c77c4268186509c1a84bb8fca8d8a8f590f3d18ae601409250a5b785", func := "ragpicker/ragpickerlaw07.HeapNew", spec := "heapNew", unfollowed := true, recurses := true, named := ["ragpicker/class.words"], apart := false, laid := [("ragpicker/class.words", laid_ragpicker_class_words)], narrowed := true }
def HeapNewUptoSaid : Prop := heapNewUptoRow.holds Tryd.pinned (OpenSpec.upto heapNewSpec)

/-- 'ragpickerlaw07.HeapUsed', WHERE WHAT IT READS IS OF BULK AT MOST 1048576: true; the input reads as it did. -/
def heapUsedUptoRow : OpenClaim := { program := "ytkalcaokmadpjaadoor", sum := "c8ec8563c77c4268186509c1a84bb8fca8d8a8f590f3d18ae601409250a5b785", func := "ragpicker/ragpickerlaw07.HeapUsed", spec := "heapUsed", unfollowed := true, recurses := true, named := ["ragpicker/class.words"], apart := false, laid := [("ragpicker/class.words", laid_ragpicker_class_words)], narrowed := true }
def HeapUsedUptoSaid : Prop := heapUsedUptoRow.holds Tryd.pinned (OpenSpec.upto heapUsedSpec)

/-- 'ragpickerlaw07.HeapLess', WHERE WHAT IT READS IS OF BULK AT MOST 1048576: true; the input reads as it did. -/
def heapLessUptoRow : OpenClaim := { program := "ytkalcaokmadpjaadoor", sum := "c8ec8563c77c4268186509c1a84bb8fca8d8a8f590f3d18ae601409250a5b785", func := "ragpicker/ragpickerlaw07.HeapLess", spec := "heapLess", unfollowed := true, recurses := true, named := ["ragpicker/class.words"], apart := false, laid := [("ragpicker/class.words", laid_ragpicker_class_words)], narrowed := true }
def HeapLessUptoSaid : Prop := heapLessUptoRow.holds Tryd.pinned (OpenSpec.upto heapLessSpec)

/-- 'ragpickerlaw10.CardsKeep', WHERE WHAT IT READS IS OF BULK AT MOST 1048576: true; the input reads as it did. -/
def cardsKeepUptoRow : OpenClaim := { program := "ytkalcaokmadpjaadoor", sum := "c8ec8563c77c4268186509c1a84bb8fca8d8a8f590f3d18ae601409250a5b785", func := "ragpicker/ragpickerlaw10.CardsKeep", spec := "cardsKeep", unfollowed := true, recurses := true, named := ["ragpicker/class.words"], apart := false, laid := [("ragpicker/class.words", laid_ragpicker_class_words)], narrowed := true }
def CardsKeepUptoSaid : Prop := cardsKeepUptoRow.holds Tryd.pinned (OpenSpec.upto cardsKeepSpec)

/-- 'ragpickerlaw12.RegsObject', WHERE WHAT IT READS IS OF BULK AT MOST 1048576: true; the input reads as it did. -/
def regsObjectUptoRow : OpenClaim := { program := "ytkalcaokmadpjaadoor", sum := "c8ec8563c77c4268186509c1a84bb8fca8d8a8f590f3d18ae601409250a5b785", func := "ragpicker/ragpickerlaw12.RegsObject", spec := "regsObject", unfollowed := true, recurses := true, named := ["ragpicker/class.words"], apart := false, laid := [("ragpicker/class.words", laid_ragpicker_class_words)], narrowed := true }
def RegsObjectUptoSaid : Prop := regsObjectUptoRow.holds Tryd.pinned (OpenSpec.upto regsObjectSpec)

/-- 'ragpickerlaw10.CardsWords', WHERE WHAT IT READS IS OF BULK AT MOST 1048576: true; the input reads as it did. -/
def cardsWordsUptoRow : OpenClaim := { program := "ytkalcaokmadpjaadoor", sum := "c8ec8563c77c4268186509c1a84bb8fca8d8a8f590f3d18ae601409250a5b785", func := "ragpicker/ragpickerlaw10.CardsWords", spec := "cardsWords", unfollowed := true, recurses := true, named := ["ragpicker/class.words"], apart := false, laid := [("ragpicker/class.words", laid_ragpicker_class_words)], narrowed := true }
def CardsWordsUptoSaid : Prop := cardsWordsUptoRow.holds Tryd.pinned (OpenSpec.upto cardsWordsSpec)

/-- 'ragpickerlaw10.CardsNone', WHERE WHAT IT READS IS OF BULK AT MOST 1048576: true; the input reads as it did. -/
def cardsNoneUptoRow : OpenClaim := { program := "ytkalcaokmadpjaadoor", sum := "c8ec8563c77c4268186509c1a84bb8fca8d8a8f590f3d18ae601409250a5b785", func := "ragpicker/ragpickerlaw10.CardsNone", spec := "cardsNone", unfollowed := true, recurses := true, named := ["ragpicker/class.words"], apart := false, laid := [("ragpicker/class.words", laid_ragpicker_class_words)], narrowed := true }
def CardsNoneUptoSaid : Prop := cardsNoneUptoRow.holds Tryd.pinned (OpenSpec.upto cardsNoneSpec)

/-- 'ragpickerlaw07.HeapKeeps', WHERE WHAT IT READS IS OF BULK AT MOST 1048576: true; the input reads as it did. -/
def heapKeepsUptoRow : OpenClaim := { program := "ytkalcaokmadpjaadoor", sum := "c8ec8563c77c4268186509c1a84bb8fca8d8a8f590f3d18ae601409250a5b785", func := "ragpicker/ragpickerlaw07.HeapKeeps", spec := "heapKeeps", unfollowed := true, recurses := true, named := ["ragpicker/class.words"], apart := false, laid := [("ragpicker/class.words", laid_ragpicker_class_words)], narrowed := true }
def HeapKeepsUptoSaid : Prop := heapKeepsUptoRow.holds Tryd.pinned (OpenSpec.upto heapKeepsSpec)

/-- 'ragpickerlaw10.CardsAll', WHERE WHAT IT READS IS OF BULK AT MOST 1048576: true; the input reads as it did. -/
def cardsAllUptoRow : OpenClaim := { program := "ytkalcaokmadpjaadoor", sum := "c8ec8563c77c4268186509c1a84bb8fca8d8a8f590f3d18ae601409250a5b785", func := "ragpicker/ragpickerlaw10.CardsAll", spec := "cardsAll", unfollowed := true, recurses := true, named := ["ragpicker/class.words"], apart := false, laid := [("ragpicker/class.words", laid_ragpicker_class_words)], narrowed := true }
def CardsAllUptoSaid : Prop := cardsAllUptoRow.holds Tryd.pinned (OpenSpec.upto cardsAllSpec)

/-- 'ragpickerlaw11.ShadeKeeps', WHERE WHAT IT READS IS OF BULK AT MOST 1048576: true; the input reads as it did. -/
def shadeKeepsUptoRow : OpenClaim := { program := "ytkalcaokmadpjaadoor", sum := "c8ec8563c77c4268186509c1a84bb8fca8d8a8f590f3d18ae601409250a5b785", func := "ragpicker/ragpickerlaw11.ShadeKeeps", spec := "shadeKeeps", unfollowed := true, recurses := true, named := ["ragpicker/class.words"], apart := false, laid := [("ragpicker/class.words", laid_ragpicker_class_words)], narrowed := true }
def ShadeKeepsUptoSaid : Prop := shadeKeepsUptoRow.holds Tryd.pinned (OpenSpec.upto shadeKeepsSpec)

/-- 'ragpickerlaw11.ShadeAll', WHERE WHAT IT READS IS OF BULK AT MOST 1048576: true; the input reads as it did. -/
def shadeAllUptoRow : OpenClaim := { program := "ytkalcaokmadpjaadoor", sum := "c8ec8563c77c4268186509c1a84bb8fca8d8a8f590f3d18ae601409250a5b785", func := "ragpicker/ragpickerlaw11.ShadeAll", spec := "shadeAll", unfollowed := true, recurses := true, named := ["ragpicker/class.words"], apart := false, laid := [("ragpicker/class.words", laid_ragpicker_class_words)], narrowed := true }
def ShadeAllUptoSaid : Prop := shadeAllUptoRow.holds Tryd.pinned (OpenSpec.upto shadeAllSpec)

/-- 'ragpickerlaw11.ShadeEpoch', WHERE WHAT IT READS IS OF BULK AT MOST 1048576: true; the input reads as it did. -/
def shadeEpochUptoRow : OpenClaim := { program := "ytkalcaokmadpjaadoor", sum := "c8ec8563c77c4268186509c1a84bb8fca8d8a8f590f3d18ae601409250a5b785", func := "ragpicker/ragpickerlaw11.ShadeEpoch", spec := "shadeEpoch", unfollowed := true, recurses := true, named := ["ragpicker/class.words"], apart := false, laid := [("ragpicker/class.words", laid_ragpicker_class_words)], narrowed := true }
def ShadeEpochUptoSaid : Prop := shadeEpochUptoRow.holds Tryd.pinned (OpenSpec.upto shadeEpochSpec)

/-- 'ragpickerlaw11.ShadeNone', WHERE WHAT IT READS IS OF BULK AT MOST 1048576: true; the input reads as it did. -/
def shadeNoneUptoRow : OpenClaim := { program := "ytkalcaokmadpjaadoor", sum := "c8ec8563c77c4268186509c1a84bb8fca8d8a8f590f3d18ae601409250a5b785", func := "ragpicker/ragpickerlaw11.ShadeNone", spec := "shadeNone", unfollowed := true, recurses := true, named := ["ragpicker/class.words"], apart := false, laid := [("ragpicker/class.words", laid_ragpicker_class_words)], narrowed := true }
def ShadeNoneUptoSaid : Prop := shadeNoneUptoRow.holds Tryd.pinned (OpenSpec.upto shadeNoneSpec)

end Rows
end Go.Proofs.YtkalcaokmadpjaaDoor
