/-
  No cell of these rows narrows 'for every input' (looked for: loops, veiled, ifaces, maps, wideKeys, modest, calm, conditions, laid).
  DERIVED. THE GIVEN ROWS OF THIS SEAT. 10 by the template 'for every input the law returns true; each argument reads behind the call as it read before'; 0 by the template 'total and deterministic' (their statements: YtlknhkocpjjkdaaTotals.lean).
  GIVEN WITH THE SEED: the statements are not yours to turn. If you find one false, say at which input.
  Laid BY PROGRAM, IN A SANDBOX (cutbox-rows.mjs): the forced cells as the released guide's own fill.sh prints them over the translation b6240e4139e09f97… (all of the seat's roots in one cut). By AI agents, Wed Nov 11 2026. No macro, syntax, notation, axiom, sorry.
-/
import Derived.Test.YtlknhkocpjjkdaaChecked
import GoSem.Claim
import GoSem.ClaimJoined
import GoSem.ClaimMapViews
import Derived.JoinedTies
import Derived.KernelRfl
namespace Go.Proofs.Ytlknhkocpjjkdaa
/- THE CELL 'sum', in the pinned program and in every row, IS THE sha256 OF THE DUMP (.gsa) THAT YtlknhkocpjjkdaaProg.lean LOADS. Nothing in Lean hashes anything: it is a label: what it is worth is what the hold of that sum in a sandbox is worth. -/
noncomputable def Try.pinned : Pinned := { name := "ytlknhkocpjjkdaa", sum := "b6240e4139e09f97337b466bfea6b5f16183ff3800ebb163b29a38f2654735d1", checked := Try.checked }
namespace Rows
def none {H : Type} : Left H := { results := [], args := [] }

/-- 'ragpickerlaw12.RegsPuts': WHATEVER THE INPUT: true; the input reads as it did. -/
def regsPutsSpec : ChangeSpec := { name := "regsPuts", fn := fun _ => fun
  | [d1, d2, d3] => { results := [.lit (.bool true)], args := [d1, d2, d3] }
  | _ => none }
def regsPutsRow : OpenClaim := { program := "ytlknhkocpjjkdaa", sum := "b6240e4139e09f97337b466bfea6b5f16183ff3800ebb163b29a38f2654735d1", func := "ragpicker/ragpickerlaw12.RegsPuts", spec := "regsPuts", apart := false }
def RegsPutsSaid : Prop := regsPutsRow.holds Try.pinned (OpenSpec.ofChange regsPutsSpec)

/-- ITS FALSE NEIGHBOUR: 'it returns false'. Refute it at one input. -/
def regsPutsWrong : ChangeSpec := { name := "regsPuts", fn := fun _ => fun
  | [d1, d2, d3] => { results := [.lit (.bool false)], args := [d1, d2, d3] }
  | _ => none }
def RegsPutsWrongFalsely : Prop := regsPutsRow.holds Try.pinned (OpenSpec.ofChange regsPutsWrong)

/-- 'ragpickerlaw12.RegsHolds': WHATEVER THE INPUT: true; the input reads as it did. -/
def regsHoldsSpec : ChangeSpec := { name := "regsHolds", fn := fun _ => fun
  | [d1, d2] => { results := [.lit (.bool true)], args := [d1, d2] }
  | _ => none }
def regsHoldsRow : OpenClaim := { program := "ytlknhkocpjjkdaa", sum := "b6240e4139e09f97337b466bfea6b5f16183ff3800ebb163b29a38f2654735d1", func := "ragpicker/ragpickerlaw12.RegsHolds", spec := "regsHolds", apart := false }
def RegsHoldsSaid : Prop := regsHoldsRow.holds Try.pinned (OpenSpec.ofChange regsHoldsSpec)

/-- ITS FALSE NEIGHBOUR: 'it returns false'. Refute it at one input. -/
def regsHoldsWrong : ChangeSpec := { name := "regsHolds", fn := fun _ => fun
  | [d1, d2] => { results := [.lit (.bool false)], args := [d1, d2] }
  | _ => none }
def RegsHoldsWrongFalsely : Prop := regsHoldsRow.holds Try.pinned (OpenSpec.ofChange regsHoldsWrong)

/-- 'ragpickerlaw12.RegsSame': WHATEVER THE INPUT: true; the input reads as it did. -/
def regsSameSpec : ChangeSpec := { name := "regsSame", fn := fun _ => fun
  | [d1, d2] => { results := [.lit (.bool true)], args := [d1, d2] }
  | _ => none }
def regsSameRow : OpenClaim := { program := "ytlknhkocpjjkdaa", sum := "b6240e4139e09f97337b466bfea6b5f16183ff3800ebb163b29a38f2654735d1", func := "ragpicker/ragpickerlaw12.RegsSame", spec := "regsSame", apart := false }
def RegsSameSaid : Prop := regsSameRow.holds Try.pinned (OpenSpec.ofChange regsSameSpec)

/-- ITS FALSE NEIGHBOUR: 'it returns false'. Refute it at one input. -/
def regsSameWrong : ChangeSpec := { name := "regsSame", fn := fun _ => fun
  | [d1, d2] => { results := [.lit (.bool false)], args := [d1, d2] }
  | _ => none }
def RegsSameWrongFalsely : Prop := regsSameRow.holds Try.pinned (OpenSpec.ofChange regsSameWrong)

/-- 'ragpickerlaw12.RegsStages': WHATEVER THE INPUT: true; the input reads as it did. -/
def regsStagesSpec : ChangeSpec := { name := "regsStages", fn := fun _ => fun
  | [d1, d2] => { results := [.lit (.bool true)], args := [d1, d2] }
  | _ => none }
def regsStagesRow : OpenClaim := { program := "ytlknhkocpjjkdaa", sum := "b6240e4139e09f97337b466bfea6b5f16183ff3800ebb163b29a38f2654735d1", func := "ragpicker/ragpickerlaw12.RegsStages", spec := "regsStages", apart := false }
def RegsStagesSaid : Prop := regsStagesRow.holds Try.pinned (OpenSpec.ofChange regsStagesSpec)

/-- ITS FALSE NEIGHBOUR: 'it returns false'. Refute it at one input. -/
def regsStagesWrong : ChangeSpec := { name := "regsStages", fn := fun _ => fun
  | [d1, d2] => { results := [.lit (.bool false)], args := [d1, d2] }
  | _ => none }
def RegsStagesWrongFalsely : Prop := regsStagesRow.holds Try.pinned (OpenSpec.ofChange regsStagesWrong)

/-- 'ragpickerlaw06.ListsAll': WHATEVER THE INPUT: true; the input reads as it did. -/
def listsAllSpec : ChangeSpec := { name := "listsAll", fn := fun _ => fun
  | [d] => { results := [.lit (.bool true)], args := [d] }
  | _ => none }
def listsAllRow : OpenClaim := { program := "ytlknhkocpjjkdaa", sum := "b6240e4139e09f97337b466bfea6b5f16183ff3800ebb163b29a38f2654735d1", func := "ragpicker/ragpickerlaw06.ListsAll", spec := "listsAll", recurses := true, apart := false }
def ListsAllSaid : Prop := listsAllRow.holds Try.pinned (OpenSpec.ofChange listsAllSpec)

/-- ITS FALSE NEIGHBOUR: 'it returns false'. Refute it at one input. -/
def listsAllWrong : ChangeSpec := { name := "listsAll", fn := fun _ => fun
  | [d] => { results := [.lit (.bool false)], args := [d] }
  | _ => none }
def ListsAllWrongFalsely : Prop := listsAllRow.holds Try.pinned (OpenSpec.ofChange listsAllWrong)

/-- 'ragpickerlaw06.ListsMoved': WHATEVER THE INPUT: true; the input reads as it did. -/
def listsMovedSpec : ChangeSpec := { name := "listsMoved", fn := fun _ => fun
  | [d1, d2, d3] => { results := [.lit (.bool true)], args := [d1, d2, d3] }
  | _ => none }
def listsMovedRow : OpenClaim := { program := "ytlknhkocpjjkdaa", sum := "b6240e4139e09f97337b466bfea6b5f16183ff3800ebb163b29a38f2654735d1", func := "ragpicker/ragpickerlaw06.ListsMoved", spec := "listsMoved", recurses := true, apart := false }
def ListsMovedSaid : Prop := listsMovedRow.holds Try.pinned (OpenSpec.ofChange listsMovedSpec)

/-- ITS FALSE NEIGHBOUR: 'it returns false'. Refute it at one input. -/
def listsMovedWrong : ChangeSpec := { name := "listsMoved", fn := fun _ => fun
  | [d1, d2, d3] => { results := [.lit (.bool false)], args := [d1, d2, d3] }
  | _ => none }
def ListsMovedWrongFalsely : Prop := listsMovedRow.holds Try.pinned (OpenSpec.ofChange listsMovedWrong)

/-- 'ragpickerlaw06.ListsPushes': WHATEVER THE INPUT: true; the input reads as it did. -/
def listsPushesSpec : ChangeSpec := { name := "listsPushes", fn := fun _ => fun
  | [d1, d2, d3] => { results := [.lit (.bool true)], args := [d1, d2, d3] }
  | _ => none }
def listsPushesRow : OpenClaim := { program := "ytlknhkocpjjkdaa", sum := "b6240e4139e09f97337b466bfea6b5f16183ff3800ebb163b29a38f2654735d1", func := "ragpicker/ragpickerlaw06.ListsPushes", spec := "listsPushes", recurses := true, apart := false }
def ListsPushesSaid : Prop := listsPushesRow.holds Try.pinned (OpenSpec.ofChange listsPushesSpec)

/-- ITS FALSE NEIGHBOUR: 'it returns false'. Refute it at one input. -/
def listsPushesWrong : ChangeSpec := { name := "listsPushes", fn := fun _ => fun
  | [d1, d2, d3] => { results := [.lit (.bool false)], args := [d1, d2, d3] }
  | _ => none }
def ListsPushesWrongFalsely : Prop := listsPushesRow.holds Try.pinned (OpenSpec.ofChange listsPushesWrong)

/-- 'ragpickerlaw06.ListsTells': WHATEVER THE INPUT: true; the input reads as it did. -/
def listsTellsSpec : ChangeSpec := { name := "listsTells", fn := fun _ => fun
  | [d1, d2, d3, d4, d5, d6, d7] => { results := [.lit (.bool true)], args := [d1, d2, d3, d4, d5, d6, d7] }
  | _ => none }
def listsTellsRow : OpenClaim := { program := "ytlknhkocpjjkdaa", sum := "b6240e4139e09f97337b466bfea6b5f16183ff3800ebb163b29a38f2654735d1", func := "ragpicker/ragpickerlaw06.ListsTells", spec := "listsTells", recurses := true, apart := false }
def ListsTellsSaid : Prop := listsTellsRow.holds Try.pinned (OpenSpec.ofChange listsTellsSpec)

/-- ITS FALSE NEIGHBOUR: 'it returns false'. Refute it at one input. -/
def listsTellsWrong : ChangeSpec := { name := "listsTells", fn := fun _ => fun
  | [d1, d2, d3, d4, d5, d6, d7] => { results := [.lit (.bool false)], args := [d1, d2, d3, d4, d5, d6, d7] }
  | _ => none }
def ListsTellsWrongFalsely : Prop := listsTellsRow.holds Try.pinned (OpenSpec.ofChange listsTellsWrong)

/-- 'ragpickerlaw06.ListsKeep': WHATEVER THE INPUT: true; the input reads as it did. -/
def listsKeepSpec : ChangeSpec := { name := "listsKeep", fn := fun _ => fun
  | [d1, d2, d3, d4, d5, d6, d7] => { results := [.lit (.bool true)], args := [d1, d2, d3, d4, d5, d6, d7] }
  | _ => none }
def listsKeepRow : OpenClaim := { program := "ytlknhkocpjjkdaa", sum := "b6240e4139e09f97337b466bfea6b5f16183ff3800ebb163b29a38f2654735d1", func := "ragpicker/ragpickerlaw06.ListsKeep", spec := "listsKeep", recurses := true, apart := false }
def ListsKeepSaid : Prop := listsKeepRow.holds Try.pinned (OpenSpec.ofChange listsKeepSpec)

/-- ITS FALSE NEIGHBOUR: 'it returns false'. Refute it at one input. -/
def listsKeepWrong : ChangeSpec := { name := "listsKeep", fn := fun _ => fun
  | [d1, d2, d3, d4, d5, d6, d7] => { results := [.lit (.bool false)], args := [d1, d2, d3, d4, d5, d6, d7] }
  | _ => none }
def ListsKeepWrongFalsely : Prop := listsKeepRow.holds Try.pinned (OpenSpec.ofChange listsKeepWrong)

/-- 'ragpickerlaw06.ListsOther': WHATEVER THE INPUT: true; the input reads as it did. -/
def listsOtherSpec : ChangeSpec := { name := "listsOther", fn := fun _ => fun
  | [d1, d2, d3, d4, d5] => { results := [.lit (.bool true)], args := [d1, d2, d3, d4, d5] }
  | _ => none }
def listsOtherRow : OpenClaim := { program := "ytlknhkocpjjkdaa", sum := "b6240e4139e09f97337b466bfea6b5f16183ff3800ebb163b29a38f2654735d1", func := "ragpicker/ragpickerlaw06.ListsOther", spec := "listsOther", recurses := true, apart := false }
def ListsOtherSaid : Prop := listsOtherRow.holds Try.pinned (OpenSpec.ofChange listsOtherSpec)

/-- ITS FALSE NEIGHBOUR: 'it returns false'. Refute it at one input. -/
def listsOtherWrong : ChangeSpec := { name := "listsOther", fn := fun _ => fun
  | [d1, d2, d3, d4, d5] => { results := [.lit (.bool false)], args := [d1, d2, d3, d4, d5] }
  | _ => none }
def ListsOtherWrongFalsely : Prop := listsOtherRow.holds Try.pinned (OpenSpec.ofChange listsOtherWrong)

/- THE SECOND FORM. 'bulk': how many values and letters a reading holds, each counted each time it is reached (what is shared counts as often as it is met; a slice's spare places count too). A statement '..UptoSaid' is the law's where the arguments, and the package variables that the reading takes, are together of bulk at most 1048576: NARROWER than '..Said'. Prove '..Said' where nothing that the law and all that it calls make is longer than what came in: it says more and counts as full. Else prove '..UptoSaid'. A law counts once. -/
mutual
def uptoBulk {H : Type} : DataW H → Nat
  | .lit (.string bytes) => bytes.length + 1
  | .lit _ => 1
  | .nil => 1
  | .ptr d => uptoBulk d + 1
  | .slice elems spare => uptoBulkAll elems + uptoBulkAll spare + 1
  | .agg parts => uptoBulkAll parts + 1
  | .iface _ d => uptoBulk d + 1
  | .map entries => uptoBulkEntries entries + 1
  | .held _ => 1
def uptoBulkAll {H : Type} : List (DataW H) → Nat
  | [] => 0
  | d :: r => uptoBulk d + uptoBulkAll r
def uptoBulkEntries {H : Type} : List (Lit × DataW H) → Nat
  | [] => 0
  | x :: r => uptoBulkEntry x + uptoBulkEntries r
def uptoBulkEntry {H : Type} : Lit × DataW H → Nat
  | (.string bytes, d) => bytes.length + uptoBulk d + 1
  | (_, d) => uptoBulk d + 1
 end
def uptoSmall : (H : Type) → List (DataW H) → Bool := fun _ ds => decide (uptoBulkAll ds ≤ 1048576)
def OpenSpec.upto (s : _root_.Go.ChangeSpec) : _root_.Go.OpenSpec := { _root_.Go.OpenSpec.ofChange s with cond := some uptoSmall }

/-- 'ragpickerlaw12.RegsPuts', WHERE WHAT IT READS IS OF BULK AT MOST 1048576: true; the input reads as it did. -/
def regsPutsUptoRow : OpenClaim := { program := "ytlknhkocpjjkdaa", sum := "b6240e4139e09f97337b466bfea6b5f16183ff3800ebb163b29a38f2654735d1", func := "ragpicker/ragpickerlaw12.RegsPuts", spec := "regsPuts", apart := false, narrowed := true }
def RegsPutsUptoSaid : Prop := regsPutsUptoRow.holds Try.pinned (OpenSpec.upto regsPutsSpec)

/-- 'ragpickerlaw12.RegsHolds', WHERE WHAT IT READS IS OF BULK AT MOST 1048576: true; the input reads as it did. -/
def regsHoldsUptoRow : OpenClaim := { program := "ytlknhkocpjjkdaa", sum := "b6240e4139e09f97337b466bfea6b5f16183ff3800ebb163b29a38f2654735d1", func := "ragpicker/ragpickerlaw12.RegsHolds", spec := "regsHolds", apart := false, narrowed := true }
def RegsHoldsUptoSaid : Prop := regsHoldsUptoRow.holds Try.pinned (OpenSpec.upto regsHoldsSpec)

/-- 'ragpickerlaw12.RegsSame', WHERE WHAT IT READS IS OF BULK AT MOST 1048576: true; the input reads as it did. -/
def regsSameUptoRow : OpenClaim := { program := "ytlknhkocpjjkdaa", sum := "b6240e4139e09f97337b466bfea6b5f16183ff3800ebb163b29a38f2654735d1", func := "ragpicker/ragpickerlaw12.RegsSame", spec := "regsSame", apart := false, narrowed := true }
def RegsSameUptoSaid : Prop := regsSameUptoRow.holds Try.pinned (OpenSpec.upto regsSameSpec)

/-- 'ragpickerlaw12.RegsStages', WHERE WHAT IT READS IS OF BULK AT MOST 1048576: true; the input reads as it did. -/
def regsStagesUptoRow : OpenClaim := { program := "ytlknhkocpjjkdaa", sum := "b6240e4139e09f97337b466bfea6b5f16183ff3800ebb163b29a38f2654735d1", func := "ragpicker/ragpickerlaw12.RegsStages", spec := "regsStages", apart := false, narrowed := true }
def RegsStagesUptoSaid : Prop := regsStagesUptoRow.holds Try.pinned (OpenSpec.upto regsStagesSpec)

/-- 'ragpickerlaw06.ListsAll', WHERE WHAT IT READS IS OF BULK AT MOST 1048576: true; the input reads as it did. -/
def listsAllUptoRow : OpenClaim := { program := "ytlknhkocpjjkdaa", sum := "b6240e4139e09f97337b466bfea6b5f16183ff3800ebb163b29a38f2654735d1", func := "ragpicker/ragpickerlaw06.ListsAll", spec := "listsAll", recurses := true, apart := false, narrowed := true }
def ListsAllUptoSaid : Prop := listsAllUptoRow.holds Try.pinned (OpenSpec.upto listsAllSpec)

/-- 'ragpickerlaw06.ListsMoved', WHERE WHAT IT READS IS OF BULK AT MOST 1048576: true; the input reads as it did. -/
def listsMovedUptoRow : OpenClaim := { program := "ytlknhkocpjjkdaa", sum := "b6240e4139e09f97337b466bfea6b5f16183ff3800ebb163b29a38f2654735d1", func := "ragpicker/ragpickerlaw06.ListsMoved", spec := "listsMoved", recurses := true, apart := false, narrowed := true }
def ListsMovedUptoSaid : Prop := listsMovedUptoRow.holds Try.pinned (OpenSpec.upto listsMovedSpec)

/-- 'ragpickerlaw06.ListsPushes', WHERE WHAT IT READS IS OF BULK AT MOST 1048576: true; the input reads as it did. -/
def listsPushesUptoRow : OpenClaim := { program := "ytlknhkocpjjkdaa", sum := "b6240e4139e09f97337b466bfea6b5f16183ff3800ebb163b29a38f2654735d1", func := "ragpicker/ragpickerlaw06.ListsPushes", spec := "listsPushes", recurses := true, apart := false, narrowed := true }
def ListsPushesUptoSaid : Prop := listsPushesUptoRow.holds Try.pinned (OpenSpec.upto listsPushesSpec)

/-- 'ragpickerlaw06.ListsTells', WHERE WHAT IT READS IS OF BULK AT MOST 1048576: true; the input reads as it did. -/
def listsTellsUptoRow : OpenClaim := { program := "ytlknhkocpjjkdaa", sum := "b6240e4139e09f97337b466bfea6b5f16183ff3800ebb163b29a38f2654735d1", func := "ragpicker/ragpickerlaw06.ListsTells", spec := "listsTells", recurses := true, apart := false, narrowed := true }
def ListsTellsUptoSaid : Prop := listsTellsUptoRow.holds Try.pinned (OpenSpec.upto listsTellsSpec)

/-- 'ragpickerlaw06.ListsKeep', WHERE WHAT IT READS IS OF BULK AT MOST 1048576: true; the input reads as it did. -/
def listsKeepUptoRow : OpenClaim := { program := "ytlknhkocpjjkdaa", sum := "b6240e4139e09f97337b466bfea6b5f16183ff3800ebb163b29a38f2654735d1", func := "ragpicker/ragpickerlaw06.ListsKeep", spec := "listsKeep", recurses := true, apart := false, narrowed := true }
def ListsKeepUptoSaid : Prop := listsKeepUptoRow.holds Try.pinned (OpenSpec.upto listsKeepSpec)

/-- 'ragpickerlaw06.ListsOther', WHERE WHAT IT READS IS OF BULK AT MOST 1048576: true; the input reads as it did. -/
def listsOtherUptoRow : OpenClaim := { program := "ytlknhkocpjjkdaa", sum := "b6240e4139e09f97337b466bfea6b5f16183ff3800ebb163b29a38f2654735d1", func := "ragpicker/ragpickerlaw06.ListsOther", spec := "listsOther", recurses := true, apart := false, narrowed := true }
def ListsOtherUptoSaid : Prop := listsOtherUptoRow.holds Try.pinned (OpenSpec.upto listsOtherSpec)

end Rows
end Go.Proofs.Ytlknhkocpjjkdaa
