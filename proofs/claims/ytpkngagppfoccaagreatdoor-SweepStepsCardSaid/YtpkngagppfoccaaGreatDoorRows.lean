/-
  NARROWER THAN 'FOR EVERY INPUT', by the rows' own cells (each row's printed sentence says how): SweepSteps: laid · SweepFates: laid · SweepIdle: laid · SweepCards: laid · SweepEnds: laid · SweepOne: laid.
  DERIVED. THE GIVEN ROWS OF THIS SEAT. 6 by the template 'for every input the law returns true; each argument reads behind the call as it read before'; 0 by the template 'total and deterministic' (their statements: YtpkngagppfoccaaGreatDoorTotals.lean).
  GIVEN WITH THE SEED: the statements are not yours to turn. If you find one false, say at which input.
  Laid BY PROGRAM, IN A SANDBOX (cutbox-rows.mjs): the forced cells as the released guide's own fill.sh prints them over the translation 2a827c8660bdb6b2… (all of the seat's roots in one cut). By AI agents, Wed Nov 11 2026. No macro, syntax, notation, axiom, sorry.
-/
import Derived.Test.YtpkngagppfoccaaGreatDoorChecked
import GoSem.Claim
import GoSem.ClaimJoined
import GoSem.ClaimMapViews
import Derived.JoinedTies
import Derived.KernelRfl
namespace Go.Proofs.YtpkngagppfoccaaGreatDoor
/- THE CELL 'sum', in the pinned program and in every row, IS THE sha256 OF THE DUMP (.gsa) THAT YtpkngagppfoccaaGreatDoorProg.lean LOADS. Nothing in Lean hashes anything: it is a label: what it is worth is what the hold of that sum in a sandbox is worth. -/
noncomputable def Tryz.pinned : Pinned := { name := "ytpkngagppfoccaagreatdoor", sum := "2a827c8660bdb6b2bd64679c27908208a8e0f55a1837dcaa01caf743220711db", checked := Tryz.checked }
namespace Rows
def none {H : Type} : Left H := { results := [], args := [] }

/- WHAT THE LISTED PACKAGE-LEVEL VARIABLES READ AS WHEN THE CALL BEGINS. Each datum BY PROGRAM (the guide's laid-datum.mjs) off the statement by which the dump's own 'gosem.cut.vars' lays the variable. In a bare row this is a premise. The card (YtpkngagppfoccaaGreatDoorCards.lean) ties it to the program's text. -/
def laid_ragpicker_class_words {H : Type} : DataW H := .agg [.lit (.int .i64 2), .lit (.int .i64 4), .lit (.int .i64 8)]

/-- 'ragpickerlaw18.SweepSteps': WHATEVER THE INPUT: true; the input reads as it did. -/
def sweepStepsSpec : ChangeSpec := { name := "sweepSteps", fn := fun _ => fun
  | [d1, d2, d3] => { results := [.lit (.bool true)], args := [d1, d2, d3] }
  | _ => none }
def sweepStepsRow : OpenClaim := { program := "ytpkngagppfoccaagreatdoor", sum := "2a827c8660bdb6b2bd64679c27908208a8e0f55a1837dcaa01caf743220711db", func := "ragpicker/ragpickerlaw18.SweepSteps", spec := "sweepSteps", unfollowed := true, recurses := true, named := ["ragpicker/class.words"], apart := false, laid := [("ragpicker/class.words", laid_ragpicker_class_words)] }
def SweepStepsSaid : Prop := sweepStepsRow.holds Tryz.pinned (OpenSpec.ofChange sweepStepsSpec)

/-- ITS FALSE NEIGHBOUR: 'it returns false'. Refute it at one input. -/
def sweepStepsWrong : ChangeSpec := { name := "sweepSteps", fn := fun _ => fun
  | [d1, d2, d3] => { results := [.lit (.bool false)], args := [d1, d2, d3] }
  | _ => none }
def SweepStepsWrongFalsely : Prop := sweepStepsRow.holds Tryz.pinned (OpenSpec.ofChange sweepStepsWrong)

/-- 'ragpickerlaw18.SweepFates': WHATEVER THE INPUT: true; the input reads as it did. -/
def sweepFatesSpec : ChangeSpec := { name := "sweepFates", fn := fun _ => fun
  | [d1, d2, d3] => { results := [.lit (.bool true)], args := [d1, d2, d3] }
  | _ => none }
def sweepFatesRow : OpenClaim := { program := "ytpkngagppfoccaagreatdoor", sum := "2a827c8660bdb6b2bd64679c27908208a8e0f55a1837dcaa01caf743220711db", func := "ragpicker/ragpickerlaw18.SweepFates", spec := "sweepFates", unfollowed := true, recurses := true, named := ["ragpicker/class.words"], apart := false, laid := [("ragpicker/class.words", laid_ragpicker_class_words)] }
def SweepFatesSaid : Prop := sweepFatesRow.holds Tryz.pinned (OpenSpec.ofChange sweepFatesSpec)

/-- ITS FALSE NEIGHBOUR: 'it returns false'. Refute it at one input. -/
def sweepFatesWrong : ChangeSpec := { name := "sweepFates", fn := fun _ => fun
  | [d1, d2, d3] => { results := [.lit (.bool false)], args := [d1, d2, d3] }
  | _ => none }
def SweepFatesWrongFalsely : Prop := sweepFatesRow.holds Tryz.pinned (OpenSpec.ofChange sweepFatesWrong)

/-- 'ragpickerlaw18.SweepIdle': WHATEVER THE INPUT: true; the input reads as it did. -/
def sweepIdleSpec : ChangeSpec := { name := "sweepIdle", fn := fun _ => fun
  | [d1, d2] => { results := [.lit (.bool true)], args := [d1, d2] }
  | _ => none }
def sweepIdleRow : OpenClaim := { program := "ytpkngagppfoccaagreatdoor", sum := "2a827c8660bdb6b2bd64679c27908208a8e0f55a1837dcaa01caf743220711db", func := "ragpicker/ragpickerlaw18.SweepIdle", spec := "sweepIdle", unfollowed := true, recurses := true, named := ["ragpicker/class.words"], apart := false, laid := [("ragpicker/class.words", laid_ragpicker_class_words)] }
def SweepIdleSaid : Prop := sweepIdleRow.holds Tryz.pinned (OpenSpec.ofChange sweepIdleSpec)

/-- ITS FALSE NEIGHBOUR: 'it returns false'. Refute it at one input. -/
def sweepIdleWrong : ChangeSpec := { name := "sweepIdle", fn := fun _ => fun
  | [d1, d2] => { results := [.lit (.bool false)], args := [d1, d2] }
  | _ => none }
def SweepIdleWrongFalsely : Prop := sweepIdleRow.holds Tryz.pinned (OpenSpec.ofChange sweepIdleWrong)

/-- 'ragpickerlaw18.SweepCards': WHATEVER THE INPUT: true; the input reads as it did. -/
def sweepCardsSpec : ChangeSpec := { name := "sweepCards", fn := fun _ => fun
  | [d1, d2] => { results := [.lit (.bool true)], args := [d1, d2] }
  | _ => none }
def sweepCardsRow : OpenClaim := { program := "ytpkngagppfoccaagreatdoor", sum := "2a827c8660bdb6b2bd64679c27908208a8e0f55a1837dcaa01caf743220711db", func := "ragpicker/ragpickerlaw18.SweepCards", spec := "sweepCards", unfollowed := true, recurses := true, named := ["ragpicker/class.words"], apart := false, laid := [("ragpicker/class.words", laid_ragpicker_class_words)] }
def SweepCardsSaid : Prop := sweepCardsRow.holds Tryz.pinned (OpenSpec.ofChange sweepCardsSpec)

/-- ITS FALSE NEIGHBOUR: 'it returns false'. Refute it at one input. -/
def sweepCardsWrong : ChangeSpec := { name := "sweepCards", fn := fun _ => fun
  | [d1, d2] => { results := [.lit (.bool false)], args := [d1, d2] }
  | _ => none }
def SweepCardsWrongFalsely : Prop := sweepCardsRow.holds Tryz.pinned (OpenSpec.ofChange sweepCardsWrong)

/-- 'ragpickerlaw18.SweepEnds': WHATEVER THE INPUT: true; the input reads as it did. -/
def sweepEndsSpec : ChangeSpec := { name := "sweepEnds", fn := fun _ => fun
  | [d1, d2, d3] => { results := [.lit (.bool true)], args := [d1, d2, d3] }
  | _ => none }
def sweepEndsRow : OpenClaim := { program := "ytpkngagppfoccaagreatdoor", sum := "2a827c8660bdb6b2bd64679c27908208a8e0f55a1837dcaa01caf743220711db", func := "ragpicker/ragpickerlaw18.SweepEnds", spec := "sweepEnds", unfollowed := true, recurses := true, named := ["ragpicker/class.words"], apart := false, laid := [("ragpicker/class.words", laid_ragpicker_class_words)] }
def SweepEndsSaid : Prop := sweepEndsRow.holds Tryz.pinned (OpenSpec.ofChange sweepEndsSpec)

/-- ITS FALSE NEIGHBOUR: 'it returns false'. Refute it at one input. -/
def sweepEndsWrong : ChangeSpec := { name := "sweepEnds", fn := fun _ => fun
  | [d1, d2, d3] => { results := [.lit (.bool false)], args := [d1, d2, d3] }
  | _ => none }
def SweepEndsWrongFalsely : Prop := sweepEndsRow.holds Tryz.pinned (OpenSpec.ofChange sweepEndsWrong)

/-- 'ragpickerlaw18.SweepOne': WHATEVER THE INPUT: true; the input reads as it did. -/
def sweepOneSpec : ChangeSpec := { name := "sweepOne", fn := fun _ => fun
  | [d1, d2, d3] => { results := [.lit (.bool true)], args := [d1, d2, d3] }
  | _ => none }
def sweepOneRow : OpenClaim := { program := "ytpkngagppfoccaagreatdoor", sum := "2a827c8660bdb6b2bd64679c27908208a8e0f55a1837dcaa01caf743220711db", func := "ragpicker/ragpickerlaw18.SweepOne", spec := "sweepOne", unfollowed := true, recurses := true, named := ["ragpicker/class.words"], apart := false, laid := [("ragpicker/class.words", laid_ragpicker_class_words)] }
def SweepOneSaid : Prop := sweepOneRow.holds Tryz.pinned (OpenSpec.ofChange sweepOneSpec)

/-- ITS FALSE NEIGHBOUR: 'it returns false'. Refute it at one input. -/
def sweepOneWrong : ChangeSpec := { name := "sweepOne", fn := fun _ => fun
  | [d1, d2, d3] => { results := [.lit (.bool false)], args := [d1, d2, d3] }
  | _ => none }
def SweepOneWrongFalsely : Prop := sweepOneRow.holds Tryz.pinned (OpenSpec.ofChange sweepOneWrong)

/- THE SECOND FORM. 'bulk': how many values and letters a reading holds, each counted each time it is reached (what is shared counts as often as it is met; a slice's spare places count too). A statement '..UptoSaid' is the law's where the arguments, and the package variables that the reading takes, are together of bulk at most 1048576: NARROWER than '..Said'. Prove '..Said' where nothing that the law and all that it calls make is longer than what came in: it says more and counts as full. Else prove '..UptoSaid'. A law counts once. -/
mutual
def uptoBulk {H : Type} : DataW H → Nat
  | .lit (.string bytes) => bytes.length + 1
  | .lit _ => 1
  | .nil => 1
  | .ptr d => uptoBulk d + 1
  | .slice elems spare => uptoBulkAll elems + uptoBulkAll spare + 1
  | .agg parts => uptoBulkAll parts + 1
  | .iface _ d => uptoBulk d + 1
  | .map entries => uptoBulkEntries entries + 1
  | .held _ => 1
def uptoBulkAll {H : Type} : List (DataW H) → Nat
  | [] => 0
  | d :: r => uptoBulk d + uptoBulkAll r
def uptoBulkEntries {H : Type} : List (Lit × DataW H) → Nat
  | [] => 0
  | x :: r => uptoBulkEntry x + uptoBulkEntries r
def uptoBulkEntry {H : Type} : Lit × DataW H → Nat
  | (.string bytes, d) => bytes.length + uptoBulk d + 1
  | (_, d) => uptoBulk d + 1
 end
def uptoSmall : (H : Type) → List (DataW H) → Bool := fun _ ds => decide (uptoBulkAll ds ≤ 1048576)
def OpenSpec.upto (s : _root_.Go.ChangeSpec) : _root_.Go.OpenSpec := { _root_.Go.OpenSpec.ofChange s with cond := some uptoSmall }

/-- 'ragpickerlaw18.SweepSteps', WHERE WHAT IT READS IS OF BULK AT MOST 1048576: true; the input reads as it did. -/
def sweepStepsUptoRow : OpenClaim := { program := "ytpkngagppfoccaagreatdoor", sum := "2a827c8660bdb6b2bd64679c27908208a8e0f55a1837dcaa01caf743220711db", func := "ragpicker/ragpickerlaw18.SweepSteps", spec := "sweepSteps", unfollowed := true, recurses := true, named := ["ragpicker/class.words"], apart := false, laid := [("ragpicker/class.words", laid_ragpicker_class_words)], narrowed := true }
def SweepStepsUptoSaid : Prop := sweepStepsUptoRow.holds Tryz.pinned (OpenSpec.upto sweepStepsSpec)

/-- 'ragpickerlaw18.SweepFates', WHERE WHAT IT READS IS OF BULK AT MOST 1048576: true; the input reads as it did. -/
def sweepFatesUptoRow : OpenClaim := { program := "ytpkngagppfoccaagreatdoor", sum := "2a827c8660bdb6b2bd64679c27908208a8e0f55a1837dcaa01caf743220711db", func := "ragpicker/ragpickerlaw18.SweepFates", spec := "sweepFates", unfollowed := true, recurses := true, named := ["ragpicker/class.words"], apart := false, laid := [("ragpicker/class.words", laid_ragpicker_class_words)], narrowed := true }
def SweepFatesUptoSaid : Prop := sweepFatesUptoRow.holds Tryz.pinned (OpenSpec.upto sweepFatesSpec)

/-- 'ragpickerlaw18.SweepIdle', WHERE WHAT IT READS IS OF BULK AT MOST 1048576: true; the input reads as it did. -/
def sweepIdleUptoRow : OpenClaim := { program := "ytpkngagppfoccaagreatdoor", sum := "2a827c8660bdb6b2bd64679c27908208a8e0f55a1837dcaa01caf743220711db", func := "ragpicker/ragpickerlaw18.SweepIdle", spec := "sweepIdle", unfollowed := true, recurses := true, named := ["ragpicker/class.words"], apart := false, laid := [("ragpicker/class.words", laid_ragpicker_class_words)], narrowed := true }
def SweepIdleUptoSaid : Prop := sweepIdleUptoRow.holds Tryz.pinned (OpenSpec.upto sweepIdleSpec)

/-- 'ragpickerlaw18.SweepCards', WHERE WHAT IT READS IS OF BULK AT MOST 1048576: true; the input reads as it did. -/
def sweepCardsUptoRow : OpenClaim := { program := "ytpkngagppfoccaagreatdoor", sum := "2a827c8660bdb6b2bd64679c27908208a8e0f55a1837dcaa01caf743220711db", func := "ragpicker/ragpickerlaw18.SweepCards", spec := "sweepCards", unfollowed := true, recurses := true, named := ["ragpicker/class.words"], apart := false, laid := [("ragpicker/class.words", laid_ragpicker_class_words)], narrowed := true }
def SweepCardsUptoSaid : Prop := sweepCardsUptoRow.holds Tryz.pinned (OpenSpec.upto sweepCardsSpec)

/-- 'ragpickerlaw18.SweepEnds', WHERE WHAT IT READS IS OF BULK AT MOST 1048576: true; the input reads as it did. -/
def sweepEndsUptoRow : OpenClaim := { program := "ytpkngagppfoccaagreatdoor", sum := "2a827c8660bdb6b2bd64679c27908208a8e0f55a1837dcaa01caf743220711db", func := "ragpicker/ragpickerlaw18.SweepEnds", spec := "sweepEnds", unfollowed := true, recurses := true, named := ["ragpicker/class.words"], apart := false, laid := [("ragpicker/class.words", laid_ragpicker_class_words)], narrowed := true }
def SweepEndsUptoSaid : Prop := sweepEndsUptoRow.holds Tryz.pinned (OpenSpec.upto sweepEndsSpec)

/-- 'ragpickerlaw18.SweepOne', WHERE WHAT IT READS IS OF BULK AT MOST 1048576: true; the input reads as it did. -/
def sweepOneUptoRow : OpenClaim := { program := "ytpkngagppfoccaagreatdoor", sum := "2a827c8660bdb6b2bd64679c27908208a8e0f55a1837dcaa01caf743220711db", func := "ragpicker/ragpickerlaw18.SweepOne", spec := "sweepOne", unfollowed := true, recurses := true, named := ["ragpicker/class.words"], apart := false, laid := [("ragpicker/class.words", laid_ragpicker_class_words)], narrowed := true }
def SweepOneUptoSaid : Prop := sweepOneUptoRow.holds Tryz.pinned (OpenSpec.upto sweepOneSpec)

end Rows
end Go.Proofs.YtpkngagppfoccaaGreatDoor
