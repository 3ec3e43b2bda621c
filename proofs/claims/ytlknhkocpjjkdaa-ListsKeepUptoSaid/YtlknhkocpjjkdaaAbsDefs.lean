/- The abstract values, blocks and states over which the functions of this program are walked; and what an operation comes to, over them. No program's numbers stand here. -/
import Derived.Calls
set_option linter.all false
set_option linter.unusedVariables false
set_option linter.unusedSimpArgs false
namespace Go.Abs

/-! The program's data, as plain Lean values. -/
structure Op where
  kind : Int
  a : Int
  b : Int
  c : Int
  deriving DecidableEq, Inhabited
structure Page where
  kind : Int
  arg : Int
  deriving DecidableEq, Inhabited
structure Lists where
  l0 : List Int
  l1 : List Int
  l2 : List Int
  deriving DecidableEq, Inhabited
structure Thread where
  live : Bool
  r0 : Int
  r1 : Int
  r2 : Int
  r3 : Int
  cache : Lists
  epoch : Int
  stage : Int
  root : Int
  ops : List Op
  pc : Int
  x : Int
  y : Int
  deriving DecidableEq, Inhabited
structure Res where
  thread : Int
  op : Op
  e : Int
  val : Int
  deriving DecidableEq, Inhabited
structure Pair where
  fst : Int
  snd : Int
  deriving DecidableEq, Inhabited

/-- The kinds of elements of slices. -/
inductive EK where
  | int | bool | page | op | lists | thread | res | pair | ints | opss
  deriving DecidableEq

def EK.T : EK → Type
  | .int => Int
  | .bool => Bool
  | .page => Page
  | .op => Op
  | .lists => Lists
  | .thread => Thread
  | .res => Res
  | .pair => Pair
  | .ints => List Int
  | .opss => List Op

instance EK.inh (k : EK) : Inhabited k.T := by
  cases k <;> simp only [EK.T] <;> infer_instance

def EK.size : EK → Nat
  | .int | .bool | .ints | .opss => 1
  | .page | .pair => 2
  | .op => 4
  | .lists => 3
  | .thread => 15
  | .res => 7

/-- A value that nobody changes: written out; a slice; a pointer to cells; a function. -/
inductive DV where
  | lit (v : Value)
  | sl (k : EK) (l : List k.T)
  | rp (xs : List DV)
  | fn (f : Nat) (first caps : List DV)

abbrev DV.int (n : Int) : DV := .lit (.int .i64 n)
abbrev DV.bo (b : Bool) : DV := .lit (.bool b)
abbrev DV.nilsl : DV := .lit (.slice none 0 0)

/-- The cells of an element. -/
def EK.enc : (k : EK) → k.T → List DV
  | .int, n => [DV.int n]
  | .bool, b => [DV.bo b]
  | .page, p => [DV.int p.kind, DV.int p.arg]
  | .op, o => [DV.int o.kind, DV.int o.a, DV.int o.b, DV.int o.c]
  | .lists, l => [.sl .int l.l0, .sl .int l.l1, .sl .int l.l2]
  | .thread, t => [DV.bo t.live, DV.int t.r0, DV.int t.r1, DV.int t.r2, DV.int t.r3, .sl .int t.cache.l0, .sl .int t.cache.l1, .sl .int t.cache.l2,
      DV.int t.epoch, DV.int t.stage, DV.int t.root, .sl .op t.ops, DV.int t.pc, DV.int t.x, DV.int t.y]
  | .res, r => [DV.int r.thread, DV.int r.op.kind, DV.int r.op.a, DV.int r.op.b, DV.int r.op.c, DV.int r.e, DV.int r.val]
  | .pair, p => [DV.int p.fst, DV.int p.snd]
  | .ints, l => [.sl .int l]
  | .opss, l => [.sl .op l]

/-- A cell of a block of the call's own: an unchanging value; a pointer to element i, cell off of it, of the block b (of a row of variables: i = 0); the slice of all elements of the block b; a slice of n of them from o on; a function over such; anything. -/
inductive CV where
  | d (x : DV)
  | ptr (b i off : Nat)
  | own (b : Nat)
  | view (b o n : Nat)
  | cl (f : Nat) (first caps : List CV)
  | any

inductive TV where
  | c (x : CV)
  | agg (xs : List CV)
  | tup (vs : List TV)
  | any

abbrev TV.lit (v : Value) : TV := .c (.d (.lit v))
abbrev TV.int (n : Int) : TV := .c (.d (.lit (.int .i64 n)))
abbrev TV.bo (b : Bool) : TV := .c (.d (.lit (.bool b)))
abbrev TV.dagg (xs : List DV) : TV := .agg (xs.map .d)

inductive AB where
  | vars (cs : List CV)
  | data (k : EK) (l : List k.T)
  | dead

/-- What a type is. -/
inductive TK where
  | bool
  | int (k : IntKind)
  | slc (e : Nat)
  | arr (n e : Nat)
  | st (fs : List (Nat × Nat))
  | other

structure TI where
  k : TK
  size : Nat
  bytes : Nat
  zero : List DV
  ek : Option EK      -- the kind of an element of this type
  eqf : Bool          -- is it a struct or an array of numbers and truths alone?
  ok : Bool

abbrev Heap := List (Nat × AB)

def look {α : Type} (d : α) : List (Nat × α) → Nat → α
  | [], _ => d
  | (i, x) :: r, n => bif Nat.beq i n then x else look d r n

def hlook : Heap → Nat → Option AB
  | [], _ => none
  | (i, x) :: r, n => bif Nat.beq i n then some x else hlook r n

def TV.cells : TV → Option (List CV)
  | .c x => some [x]
  | .agg xs => some xs
  | _ => none

def ofCells (agg : Bool) (cs : List CV) : TV :=
  match agg, cs with
  | true, cs => .agg cs
  | false, [x] => .c x
  | false, _ => .any

def TI.isAgg (t : TI) : Bool := match t.k with | .arr .. | .st .. => true | _ => false

def isInts : List CV → Option (List DV)
  | [] => some []
  | .d x :: r => (isInts r).map (x :: ·)
  | _ => none

def DV.toInts : DV → Option (List Int)
  | .sl .int l => some l
  | .lit (.slice none 0 0) => some []
  | _ => none
def DV.toOps : DV → Option (List Op)
  | .sl .op l => some l
  | .lit (.slice none 0 0) => some []
  | _ => none

/-- The element of which these are the cells. -/
def EK.fit : (k : EK) → List CV → Option k.T
  | .int => fun cs => match cs with
    | [.d (.lit (.int .i64 n))] => some n
    | _ => none
  | .bool => fun cs => match cs with
    | [.d (.lit (.bool b))] => some b
    | _ => none
  | .page => fun cs => match cs with
    | [.d (.lit (.int .i64 a)), .d (.lit (.int .i64 b))] => some ⟨a, b⟩
    | _ => none
  | .pair => fun cs => match cs with
    | [.d (.lit (.int .i64 a)), .d (.lit (.int .i64 b))] => some ⟨a, b⟩
    | _ => none
  | .op => fun cs => match cs with
    | [.d (.lit (.int .i64 k)), .d (.lit (.int .i64 a)), .d (.lit (.int .i64 b)), .d (.lit (.int .i64 c))] => some ⟨k, a, b, c⟩
    | _ => none
  | .lists => fun cs => match cs with
    | [.d a, .d b, .d c] =>
      match a.toInts, b.toInts, c.toInts with
      | some a, some b, some c => some ⟨a, b, c⟩
      | _, _, _ => none
    | _ => none
  | .thread => fun cs => match cs with
    | [.d (.lit (.bool live)), .d (.lit (.int .i64 r0)), .d (.lit (.int .i64 r1)), .d (.lit (.int .i64 r2)), .d (.lit (.int .i64 r3)), .d c0, .d c1, .d c2,
        .d (.lit (.int .i64 e)), .d (.lit (.int .i64 s)), .d (.lit (.int .i64 r)), .d o, .d (.lit (.int .i64 pc)), .d (.lit (.int .i64 x)), .d (.lit (.int .i64 y))] =>
      match c0.toInts, c1.toInts, c2.toInts, o.toOps with
      | some c0, some c1, some c2, some o => some ⟨live, r0, r1, r2, r3, ⟨c0, c1, c2⟩, e, s, r, o, pc, x, y⟩
      | _, _, _, _ => none
    | _ => none
  | .res => fun cs => match cs with
    | [.d (.lit (.int .i64 t)), .d (.lit (.int .i64 k)), .d (.lit (.int .i64 a)), .d (.lit (.int .i64 b)), .d (.lit (.int .i64 c)), .d (.lit (.int .i64 e)), .d (.lit (.int .i64 v))] =>
      some ⟨t, ⟨k, a, b, c⟩, e, v⟩
    | _ => none
  | .ints => fun cs => match cs with
    | [.d a] => a.toInts
    | _ => none
  | .opss => fun cs => match cs with
    | [.d a] => a.toOps
    | _ => none

end Go.Abs
