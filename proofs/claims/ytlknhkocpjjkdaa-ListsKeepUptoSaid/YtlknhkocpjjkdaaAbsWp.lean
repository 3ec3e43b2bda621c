/- The weakest precondition of code, over abstract states; what is claimed of a function. -/
import Derived.Test.YtlknhkocpjjkdaaAbsOpsB
set_option linter.all false
set_option linter.unusedVariables false
set_option linter.unusedSimpArgs false
namespace Go.Abs

structure AS where
  t : List (Nat × TV)
  h : Heap
  nx : Nat

inductive AExit where
  | normal
  | exit (id : Nat)
  | ret

/-- Names that a caller hands over: they stand for what they stood for, as long as they stand for anything. -/
def fixed (c : Nat) : Bool := Nat.ble 16 c && Nat.blt c 32

def Fx (N N' : Names) : Prop := ∀ c, fixed c = true → N c = .unused ∨ N' c = N c ∨ N' c = .dead

/-- WHAT IS CLAIMED OF A FUNCTION: called where the blocks of H are its own to change, with these arguments, it returns; Q holds of the blocks that are the caller's then and of what it returns; nothing else that was there has changed. -/
def Spec (X : Ctx) (f : Nat) (H : Heap) (args : List TV) (Q : Heap → TV → Prop) : Prop :=
  callOk X.P f ∧ ∀ (N : Names) (S : Nat → Prop) (w : World) (vs : List Value), NR N S w → HR N S w H → (∀ b, N b ≠ .unused → b < 32) → GOk X (OO N S) w → RepTL N S w args vs →
    Calls X.P f vs.toArray w fun e w' => ∃ v N' H' r, e = .returned v ∧ Q H' r ∧ NR N' S w' ∧ HR N' S w' H' ∧ (∀ b, N' b ≠ .unused → b < 32) ∧ RepT N' S w' r v ∧ WExt (owned N) w w' ∧ (∀ k, k < w.heap.size → owned N' k → owned N k) ∧ Fx N N'

/-! Calls. -/
def lendAll (g : CV → Option DV) : List CV → Option (List DV)
  | [] => some []
  | x :: r => match g x, lendAll g r with | some y, some ys => some (y :: ys) | _, _ => none

def lendC (ok : Nat → Bool) (h : Heap) : Nat → CV → Option DV
  | 0, _ => none
  | n + 1, x =>
    match x with
    | .d x => some x
    | .own b => match ok b, hlook h b with | true, some (.data k l) => some (.sl k l) | _, _ => none
    | .view b o m => match ok b, hlook h b with | true, some (.data k l) => (bif Nat.ble (o + m) l.length then some (.sl k ((l.drop o).take m)) else none) | _, _ => none
    | .ptr b i off => match i, ok b, hlook h b with | 0, true, some (.vars cs) => (lendAll (lendC ok h n) (cs.drop off)).map .rp | _, _, _ => none
    | .cl f a b => match lendAll (lendC ok h n) a, lendAll (lendC ok h n) b with | some a, some b => some (.fn f a b) | _, _ => none
    | .any => none

def lendT (h : Heap) : TV → TV
  | .c x => match lendC (fun _ => true) h 8 x with | some y => .c (.d y) | none => .any
  | .agg xs => match lendAll (lendC (fun _ => true) h 8) xs with | some ys => .agg (ys.map .d) | none => .any
  | _ => .any

def isD : CV → Bool
  | .d _ => true
  | _ => false

def noLent : TV → Bool
  | .c x => isD x
  | .agg xs => xs.all isD
  | _ => true

def shC (k : Nat) : Nat → CV → CV
  | 0, _ => .any
  | n + 1, x => match x with
    | .d x => .d x
    | .ptr b i o => .ptr (k + b) i o
    | .own b => .own (k + b)
    | .view b o m => .view (k + b) o m
    | .cl f a b => .cl f (a.map (shC k n)) (b.map (shC k n))
    | .any => .any

def shT (k : Nat) : Nat → TV → TV
  | 0, _ => .any
  | n + 1, x => match x with
    | .c x => .c (shC k 8 x)
    | .agg xs => .agg (xs.map (shC k 8))
    | .tup vs => .tup (vs.map (shT k n))
    | .any => .any

def shB (k : Nat) : AB → AB
  | .vars cs => .vars (cs.map (shC k 8))
  | .data k l => .data k l
  | .dead => .dead

def shH (k : Nat) (h : Heap) : Heap := h.map fun (b, x) => (k + b, shB k x)

/-- Nothing in it leads to memory that is not its own. -/
def scal : CV → Bool
  | .d (.lit _) => true
  | .ptr _ _ _ => true
  | .own _ => true
  | .view _ _ _ => true
  | _ => false

def scalT : Nat → TV → Bool
  | 0, _ => false
  | n + 1, x => match x with
    | .c x => scal x
    | .agg xs => xs.all scal
    | .tup vs => vs.all (scalT n)
    | .any => true

def flatK : EK → Bool
  | .int | .bool | .page | .op | .res | .pair => true
  | _ => false

def scalB : AB → Bool
  | .vars cs => cs.all scal
  | .data k _ => flatK k
  | .dead => true

def scalH (h : Heap) : Bool := h.all fun p => scalB p.2

/-- No slice is longer than memory is wide. -/
def bdD : DV → Prop
  | .sl k l => l.length ≤ maxN ∧ ∀ x ∈ l, ∀ d ∈ k.enc x, (match d with | .sl _ l' => l'.length ≤ maxN | _ => True)
  | _ => True

def bdC : CV → Prop
  | .d x => bdD x
  | _ => True

def bdT : Nat → TV → Prop
  | _, .c x => bdC x
  | _, .agg xs => ∀ x ∈ xs, bdC x
  | 0, _ => True
  | n + 1, .tup vs => ∀ v ∈ vs, bdT n v
  | _, .any => True

def bdH (h : Heap) : Prop := ∀ b k l, hlook h b = some (.data k l) → l.length ≤ maxN

/-! From one state to another that says less. -/
def nmOf (ρ : List (Nat × Nat)) (b : Nat) : Option Nat :=
  match ρ with
  | [] => none
  | (x, y) :: r => bif Nat.beq x b then some y else nmOf r b

def nmTo (ρ : List (Nat × Nat)) (c : Nat) : Option Nat :=
  match ρ with
  | [] => none
  | (x, y) :: r => bif Nat.beq y c then some x else nmTo r c

def lenAt (h : Heap) (c : Nat) : Option Nat :=
  match hlook h c with
  | some (.data _ l) => some l.length
  | _ => none

inductive LeC (ρ : List (Nat × Nat)) (h h' : Heap) : CV → CV → Prop
  | any (x : CV) : LeC ρ h h' x .any
  | d (x : DV) : LeC ρ h h' (.d x) (.d x)
  | nilsl (k : EK) : LeC ρ h h' (.d (.lit (.slice none 0 0))) (.d (.sl k []))
  | nilown (c : Nat) (k : EK) (h1 : nmTo ρ c = none) (h2 : hlook h' c = some (.data k [])) : LeC ρ h h' (.d (.lit (.slice none 0 0))) (.own c)
  | ptr (b c i off : Nat) (h1 : nmOf ρ b = some c) : LeC ρ h h' (.ptr b i off) (.ptr c i off)
  | own (b c : Nat) (h1 : nmOf ρ b = some c) : LeC ρ h h' (.own b) (.own c)
  | view (b c o n : Nat) (h1 : nmOf ρ b = some c) : LeC ρ h h' (.view b o n) (.view c o n)
  | whole (b c n : Nat) (h1 : nmOf ρ b = some c) (h2 : lenAt h b = some n) : LeC ρ h h' (.own b) (.view c 0 n)
  | frz (x : CV) (y : DV) (h1 : lendC (fun b => (nmOf ρ b).isNone) h 8 x = some y) : LeC ρ h h' x (.d y)

inductive LeL (ρ : List (Nat × Nat)) (h h' : Heap) : List CV → List CV → Prop
  | nil : LeL ρ h h' [] []
  | cons (x y : CV) (xs ys : List CV) (h1 : LeC ρ h h' x y) (h2 : LeL ρ h h' xs ys) : LeL ρ h h' (x :: xs) (y :: ys)

inductive LeT (ρ : List (Nat × Nat)) (h h' : Heap) : TV → TV → Prop
  | any (x : TV) : LeT ρ h h' x .any
  | c (x y : CV) (h1 : LeC ρ h h' x y) : LeT ρ h h' (.c x) (.c y)
  | agg (xs ys : List CV) (h1 : LeL ρ h h' xs ys) : LeT ρ h h' (.agg xs) (.agg ys)
  | unit : LeT ρ h h' (.tup []) (.tup [])

inductive LeTs (ρ : List (Nat × Nat)) (h h' : Heap) (t : List (Nat × TV)) : List (Nat × TV) → Prop
  | nil : LeTs ρ h h' t []
  | cons (s : Nat) (v : TV) (r : List (Nat × TV)) (h1 : LeT ρ h h' (look .any t s) v) (h2 : LeTs ρ h h' t r) : LeTs ρ h h' t ((s, v) :: r)

inductive LeV (ρ : List (Nat × Nat)) (h h' : Heap) : List TV → List TV → Prop
  | nil : LeV ρ h h' [] []
  | cons (x y : TV) (xs ys : List TV) (h1 : LeT ρ h h' x y) (h2 : LeV ρ h h' xs ys) : LeV ρ h h' (x :: xs) (y :: ys)

inductive LeB (ρ : List (Nat × Nat)) (h h' : Heap) : AB → AB → Prop
  | vars (xs ys : List CV) (h1 : LeL ρ h h' xs ys) : LeB ρ h h' (.vars xs) (.vars ys)
  | data (k : EK) (l : List k.T) : LeB ρ h h' (.data k l) (.data k l)

inductive LeH (ρ : List (Nat × Nat)) (h h0 : Heap) : Heap → Prop
  | nil : LeH ρ h h0 []
  | old (c b : Nat) (x y : AB) (r : Heap) (h1 : nmTo ρ c = some b) (h2 : hlook h b = some x) (h3 : LeB ρ h h0 x y) (h4 : LeH ρ h h0 r) : LeH ρ h h0 ((c, y) :: r)
  | new (c : Nat) (k : EK) (r : Heap) (h1 : nmTo ρ c = none) (h4 : LeH ρ h h0 r) : LeH ρ h h0 ((c, .data k []) :: r)

/-- The pairs are one to one. -/
def okR : List (Nat × Nat) → Bool
  | [] => true
  | (b, c) :: r => (nmOf r b).isNone && (nmTo r c).isNone && okR r

def distinct : Heap → Bool
  | [] => true
  | (c, _) :: r => (hlook r c).isNone && distinct r

def below (n : Nat) (h : Heap) : Bool := h.all fun p => Nat.blt p.1 n

def inR (h : Heap) (ρ : List (Nat × Nat)) : Bool := ρ.all fun p => (hlook h p.2).isSome

/-! Blocks that are handed over, to be changed. -/
def ownN (ρ : List (Nat × Nat)) : CV → Bool
  | .d _ => true
  | .any => true
  | .ptr b _ _ => (nmOf ρ b).isSome
  | .own b => (nmOf ρ b).isSome
  | .view b _ _ => (nmOf ρ b).isSome
  | .cl _ _ _ => false

def ownT (ρ : List (Nat × Nat)) : TV → Bool
  | .c x => ownN ρ x
  | .agg xs => xs.all (ownN ρ)
  | .tup [] => true
  | .tup _ => false
  | .any => true

def ownB (ρ : List (Nat × Nat)) : Option AB → Bool
  | some (.vars cs) => cs.all (ownN ρ)
  | _ => true

/-- The caller's name of what the call calls c. -/
def sgN (ρ : List (Nat × Nat)) (k c : Nat) : Nat := match nmTo ρ c with | some b => b | none => k + c

def sgC (ρ : List (Nat × Nat)) (k : Nat) : Nat → CV → CV
  | 0, _ => .any
  | n + 1, x => match x with
    | .d x => .d x
    | .ptr b i o => .ptr (sgN ρ k b) i o
    | .own b => .own (sgN ρ k b)
    | .view b o m => .view (sgN ρ k b) o m
    | .cl f a b => .cl f (a.map (sgC ρ k n)) (b.map (sgC ρ k n))
    | .any => .any

def sgT (ρ : List (Nat × Nat)) (k : Nat) : Nat → TV → TV
  | 0, _ => .any
  | n + 1, x => match x with
    | .c x => .c (sgC ρ k 8 x)
    | .agg xs => .agg (xs.map (sgC ρ k 8))
    | .tup vs => .tup (vs.map (sgT ρ k n))
    | .any => .any

def sgB (ρ : List (Nat × Nat)) (k : Nat) : AB → AB
  | .vars cs => .vars (cs.map (sgC ρ k 8))
  | .data k l => .data k l
  | .dead => .dead

def sgH (ρ : List (Nat × Nat)) (k : Nat) (h : Heap) : Heap := h.map fun (b, x) => (sgN ρ k b, sgB ρ k x)

/-- A call: nothing of the caller's own is handed over to be changed; or some of it is. -/
inductive ACall (X : Ctx) (f : Nat) (args : List TV) (h : Heap) (base : Nat) (k : TV → Heap → Prop) : Prop
  | mk (Q : Heap → TV → Prop) (hT : Spec X f [] (args.map (lendT h)) Q) (hk : ∀ H r, Q H r → bdT 4 r → bdH H → (args.all noLent = true ∨ (scalT 8 r = true ∧ scalH H = true)) ∧ k (shT base 8 r) (shH base H))
  | hand (ρ : List (Nat × Nat)) (H0 : Heap) (args0 : List TV) (Q : Heap → TV → Prop) (ha : LeV ρ h H0 args args0) (hh : LeH ρ h H0 H0)
      (ok : (okR ρ && distinct H0 && below 32 H0 && inR H0 ρ && ρ.all (fun p => fixed p.2 && Nat.blt p.1 base) && h.all (fun p => Nat.blt p.1 base)) = true) (hT : Spec X f H0 args0 Q)
      (hk : ∀ H r, Q H r → bdT 4 r → bdH H → ρ.all (fun p => (hlook H p.2).isSome) = true ∧ ((args.all (ownT ρ) && ρ.all fun p => ownB ρ (hlook h p.1)) = true ∨ (scalT 8 r = true ∧ scalH H = true)) ∧ k (sgT ρ base 8 r) (sgH ρ base H))

inductive AIf (c A B : Prop) : Prop
  | mk (t : c → A) (f : ¬ c → B)

inductive ABr (b : Bool) (A B : Prop) : Prop
  | mk (t : b = true → A) (f : b = false → B)

inductive AOb (p A : Prop) : Prop
  | mk (h : p) (k : A)

/-! Regions. -/
abbrev Chain := List (Nat × Bool)

def Chain.beq : Chain → Chain → Bool
  | [], [] => true
  | (i, a) :: r, (j, b) :: s => Nat.beq i j && (a == b) && Chain.beq r s
  | _, _ => false

def Chain.mem (c : Chain) : List Chain → Bool
  | [] => false
  | d :: r => c.beq d || c.mem r

/-- Is c the end of the other? -/
def Chain.isEnd (c : Chain) : Chain → Bool
  | [] => c.beq []
  | p :: r => c.beq (p :: r) || Chain.isEnd c r

/-- Is some end of it in the list? -/
def Chain.ends (l : List Chain) : Chain → Bool
  | [] => false
  | p :: r => Chain.mem (p :: r) l || Chain.ends l r

/-- r: what has been written to temporaries in this region, under which guards; ch: the guards of each operation so far; kt, kf: guards that are known to hold, and not to. -/
structure RS where
  r : List (Nat × Chain × TV)
  ch : List (Nat × Chain)
  kt : List Chain
  kf : List Chain
  h : Heap

def rfind : List (Nat × Chain × TV) → Nat → Option (Chain × TV)
  | [], _ => none
  | (s, e) :: r, n => bif Nat.beq s n then some e else rfind r n

def cfind : List (Nat × Chain) → Nat → Option Chain
  | [], _ => none
  | (s, e) :: r, n => bif Nat.beq s n then some e else cfind r n

def RS.read (R : RS) (t : List (Nat × TV)) (L : Chain) (n : Nat) : TV :=
  match rfind R.r n with
  | some (c, v) => bif c.isEnd L || c.mem R.kt then v else .any
  | none => look .any t n

def RS.chainAt (R : RS) (o : Oper) : Option Chain :=
  match o.guard with
  | none => some []
  | some (j, w) => match cfind R.ch j with | some c => some ((j, w) :: c) | none => none

def guardTV (ops : List Oper) (R : RS) (j : Nat) : TV :=
  match lnth ops j with
  | some p => match p.dst with
    | some d => match rfind R.r d with | some (_, v) => v | none => .any
    | none => .any
  | none => .any

def RS.cond (ops : List Oper) (R : RS) : Chain → Option Prop
  | [] => some True
  | (j, w) :: r => match guardTV ops R j, R.cond ops r with
    | .c (.d (.lit (.bool b))), some p => some (b = w ∧ p)
    | _, _ => none

def opIdx (ops : List Oper) (s : Nat) : Nat → Option Nat
  | 0 => none
  | n + 1 => match lnth ops n with
    | some p => match p.dst with | some d => bif Nat.beq d s then some n else opIdx ops s n | none => opIdx ops s n
    | none => opIdx ops s n

def aPick (X : Ctx) (ops : List Oper) (R : RS) (t : List (Nat × TV)) (L : Chain) (i : Nat) (c a b : Operand) : ER :=
  match c with
  | .tmp s =>
    match opIdx ops s i with
    | some j =>
      bif Chain.mem ((j, true) :: L) R.kt then .ok (X.opd (R.read t ((j, true) :: L)) a) []
      else bif Chain.mem ((j, false) :: L) R.kt then .ok (X.opd (R.read t ((j, false) :: L)) b) []
      else
        match X.opd (R.read t L) c, X.opd (R.read t ((j, true) :: L)) a, X.opd (R.read t ((j, false) :: L)) b with
        | .c (.d (.lit (.bool x))), .c (.d (.lit (.bool y))), .c (.d (.lit (.bool z))) => .ok (.bo (bif x then y else z)) []
        | .c (.d (.lit (.bool x))), .c (.d (.lit (.bool y))), _ => .ob (x = true) (.bo y) []
        | .c (.d (.lit (.bool x))), _, .c (.d (.lit (.bool z))) => .ob (x = false) (.bo z) []
        | _, _, _ => .bad
    | none => .bad
  | _ => .bad

def evalR (X : Ctx) (ops : List Oper) (R : RS) (t : List (Nat × TV)) (L : Chain) (base i : Nat) (o : Go.Op) : ER :=
  match o with
  | .pick c a b => aPick X ops R t L i c a b
  | op => evalOp X (R.read t L) R.h base op

def RS.put (R : RS) (i : Nat) (dst : Option Nat) (own L : Chain) (v : TV) (δ : Heap) : RS :=
  { R with r := match dst with | some d => (d, L, v) :: R.r | none => R.r, ch := (i, own) :: R.ch, h := δ ++ R.h }

def dOk (base : Nat) (δ : Heap) : Bool := δ.all fun p => Nat.ble p.1 base

def arun (X : Ctx) (ops : List Oper) (t : List (Nat × TV)) (base i : Nat) (o : Oper) (R : RS) (L : Chain) (k : RS → Prop) : Prop :=
  match evalR X ops R t L base i o.op with
  | .ok v δ => bif dOk base δ then k (R.put i o.dst L [] v δ) else False
  | .ob p v δ => bif dOk base δ then AOb p (k (R.put i o.dst L [] v δ)) else False
  | .dem p => ∀ b, p b → k (R.put i o.dst L [] (.bo b) [])
  | .call f args => ACall X f args R.h base fun v δ => k (R.put i o.dst L [] v δ)
  | .bad => False

def astep (X : Ctx) (ops : List Oper) (t : List (Nat × TV)) (base i : Nat) (o : Oper) (R : RS) (k : RS → Prop) : Prop :=
  match R.chainAt o with
  | none => False
  | some L =>
    bif Chain.ends R.kf L then k (R.put i o.dst L [] .any [])
    else bif L.beq [] || Chain.mem L R.kt then arun X ops t base i o R L k
    else
      match R.cond ops L with
      | none => False
      | some c =>
        match evalR X ops R t L base i o.op with
        | .ok v [] => k (R.put i o.dst L L v [])
        | .ob p v [] => AOb (c → p) (k (R.put i o.dst L L v []))
        | _ => AIf c (arun X ops t base i o { R with kt := L :: R.kt } L k) (k ({ R with kf := L :: R.kf }.put i o.dst L [] .any []))

def areg (X : Ctx) (ops : List Oper) (t : List (Nat × TV)) (nx : Nat) : List Oper → Nat → RS → (RS → Prop) → Prop
  | [], _, R, K => K R
  | o :: rest, i, R, K => astep X ops t (nx + 32 * i) i o R fun R' => areg X ops t nx rest (i + 1) R' K

def RS.strip (R : RS) : List (Nat × TV) :=
  R.r.map fun (s, c, v) => (s, bif c.beq [] || c.mem R.kt then v else .any)

/-- Each temporary is written to once. -/
def uniq (nt : Nat) : List Oper → List Nat → Bool
  | [], _ => true
  | o :: r, seen => match o.dst with
    | some d => Nat.blt d nt && !(seen.any (Nat.beq d)) && uniq nt r (d :: seen)
    | none => uniq nt r seen

/-! Regions whose order is drawn: each operation is looked at with what is written ahead of it in every order; and then it is asked that no other one of them writes to that. No guards. -/
structure DE where
  i : Nat
  dst : Option Nat
  tv : TV
  δ : Heap
  H : Heap
  sk : Bool      -- has it been passed over?

def bit (m i : Nat) : Bool := !(Nat.beq (Nat.land (Nat.shiftRight m i) 1) 0)

def edgesM (an : List Nat) : List Edge → Nat
  | [] => 0
  | e :: r => bif Region.binds .any e then Nat.lor (Nat.lor (Nat.shiftLeft 1 e.on) ((lnth an e.on).getD 0)) (edgesM an r) else edgesM an r

/-- Of each operation: those that are ahead of it in every order, as a number's bits. -/
def ancs : List Oper → List Nat → List Nat
  | [], an => an
  | o :: r, an => ancs r (an ++ [edgesM an o.after.toList])

def backOk (i : Nat) (o : Oper) : Bool := o.after.toList.all (fun e => !(Region.binds .any e) || Nat.blt e.on i)

def backAll : Nat → List Oper → Bool
  | _, [] => true
  | i, o :: r => backOk i o && backAll (i + 1) r

def dtmp (t : List (Nat × TV)) (n : Nat) : Option Nat :=
  match look .any t n with
  | .c (.ptr b _ _) => some b
  | .c (.own b) => some b
  | .c (.view b _ _) => some b
  | _ => none

/-- The name that an operand leads to. -/
def droot (ops : List Oper) (t : List (Nat × TV)) : Nat → Operand → Option Nat
  | 0, _ => none
  | k + 1, x =>
    match x with
    | .tmp n =>
      match opIdx ops n ops.length with
      | none => dtmp t n
      | some i => match lnth ops i with
        | some o => match o.op with
          | .move x | .assign x | .nilCheck x => droot ops t k x
          | .fieldAddr _ x _ => droot ops t k x
          | .indexAddr _ x _ => droot ops t k x
          | _ => none
        | none => none
    | _ => none

def dwrites (ops : List Oper) (t : List (Nat × TV)) (o : Oper) : Option Nat :=
  match o.op with
  | .store _ a _ => droot ops t 8 a
  | .call c => match c.callee, c.args.toList with
    | .builtin .copy, x :: _ => droot ops t 8 x
    | .builtin .clear, x :: _ => droot ops t 8 x
    | .builtin .append, x :: _ => droot ops t 8 x
    | _, _ => none
  | _ => none

def dwriters (ops : List Oper) (t : List (Nat × TV)) : Nat → List Oper → List (Nat × Nat)
  | _, [] => []
  | i, o :: r => match dwrites ops t o with | some b => (i, b) :: dwriters ops t (i + 1) r | none => dwriters ops t (i + 1) r

def unord (an : List Nat) (i j : Nat) : Bool := !(Nat.beq i j) && !(bit ((lnth an i).getD 0) j) && !(bit ((lnth an j).getD 0) i)

def dclean (an : List Nat) (wr : List (Nat × Nat)) (j : Nat) (h : Heap) : Heap :=
  match wr with
  | [] => h
  | _ => h.filter fun p => !(wr.any fun q => Nat.beq q.2 p.1 && unord an q.1 j)

def foldH (D : Nat → Bool) (h : Heap) : List DE → Heap
  | [] => h
  | ⟨i, _, _, δ, _, _⟩ :: r => bif D i then δ ++ foldH D h r else foldH D h r

theorem foldH_cons (D : Nat → Bool) (h : Heap) (e : DE) (r : List DE) : foldH D h (e :: r) = bif D e.i then e.δ ++ foldH D h r else foldH D h r := by cases e; rfl

def dfind : List DE → Nat → Option DE
  | [], _ => none
  | ⟨j, d, v, δ, H, k⟩ :: r, i => bif Nat.beq j i then some ⟨j, d, v, δ, H, k⟩ else dfind r i

theorem dfind_cons (e : DE) (r : List DE) (i : Nat) : dfind (e :: r) i = bif Nat.beq e.i i then some e else dfind r i := by cases e; rfl

def dread (ops : List Oper) (an : List Nat) (T : List DE) (t : List (Nat × TV)) (j n : Nat) : TV :=
  match opIdx ops n ops.length with
  | none => look .any t n
  | some i =>
    bif bit ((lnth an j).getD 0) i then (match dfind T i with | some e => e.tv | none => .any)
    else bif bit ((lnth an i).getD 0) j then look .any t n else .any

/-- The plain outcome. -/
def Ret (H : Heap) (r : TV) : Heap → TV → Prop := fun H' r' => H' = H ∧ r' = r

/-- A call whose outcome is known. -/
inductive ADCall (X : Ctx) (f : Nat) (args : List TV) (h : Heap) (base : Nat) (k : TV → Heap → Prop) : Prop
  | mk (H : Heap) (r : TV) (hT : Spec X f [] (args.map (lendT h)) (Ret H r)) (hl : (args.all noLent || (scalT 8 r && scalH H)) = true) (hk : k (shT base 8 r) (shH base H))

/-- Only the operation's own name and names that are there are written to. -/
def dOkS (base : Nat) (H δ : Heap) : Bool := δ.all fun p => Nat.beq p.1 base || (hlook H p.1).isSome

/-- What is known of the truth of an operation's value. -/
def gfind : List (Nat × Bool) → Nat → Option Bool
  | [], _ => none
  | (j, b) :: r, i => bif Nat.beq j i then some b else gfind r i

def dPick (X : Ctx) (ops : List Oper) (an : List Nat) (lk : Nat → TV) (G : List (Nat × Bool)) (i : Nat) (c a b : Operand) : ER :=
  match c with
  | .tmp s =>
    match opIdx ops s ops.length with
    | some j =>
      match bit ((lnth an i).getD 0) j, gfind G j with
      | true, some true => .ok (X.opd lk a) []
      | true, some false => .ok (X.opd lk b) []
      | _, _ =>
        match X.opd lk (.tmp s), X.opd lk a, X.opd lk b with
        | .c (.d (.lit (.bool x))), .c (.d (.lit (.bool y))), .c (.d (.lit (.bool z))) => .ok (.bo (bif x then y else z)) []
        | _, _, _ => .bad
    | none => .bad
  | _ => .bad

def evalD (X : Ctx) (ops : List Oper) (an : List Nat) (lk : Nat → TV) (H : Heap) (G : List (Nat × Bool)) (base i : Nat) (o : Go.Op) : ER :=
  match o with
  | .pick c a b => dPick X ops an lk G i c a b
  | op => evalOp X lk H base op

/-- Is it to be done? True: it is; false: it is passed over. -/
inductive DW where
  | go
  | pass
  | ask (j : Nat) (w b : Bool)
  | bad

def dwant (an : List Nat) (T : List DE) (G : List (Nat × Bool)) (i : Nat) (o : Oper) : DW :=
  match o.guard with
  | none => .go
  | some (j, w) =>
    bif bit ((lnth an i).getD 0) j then
      match dfind T j with
      | some ⟨_, some _, v, _, _, k⟩ =>
        match k, gfind G j with
        | true, _ => .pass
        | false, some b => match b, w with | true, true => .go | false, false => .go | true, false => .pass | false, true => .pass
        | false, none => match v with
          | .c (.d (.lit (.bool b))) => .ask j w b
          | _ => .bad
      | _ => .bad
    else .bad

/-- Does it look at no memory? -/
def blind : Go.Op → Bool
  | .move _ => true
  | .assign _ => true
  | .extract _ _ => true
  | .convert _ _ _ => true
  | .unOp _ _ _ => true
  | .pick _ _ _ => true
  | .field _ _ _ => true
  | .index _ _ _ => true
  | .binOp .lss _ _ _ _ => true
  | .binOp .leq _ _ _ _ => true
  | .binOp .gtr _ _ _ _ => true
  | .binOp .geq _ _ _ _ => true
  | .binOp .add _ _ _ _ => true
  | .binOp .sub _ _ _ _ => true
  | _ => false

/-- What is looked at. -/
def dsee (an : List Nat) (wr : List (Nat × Nat)) (h : Heap) (T : List DE) (i : Nat) (o : Oper) : Heap :=
  bif blind o.op then [] else foldH (bit ((lnth an i).getD 0)) (dclean an wr i h) T

def drun (X : Ctx) (ops : List Oper) (an : List Nat) (wr : List (Nat × Nat)) (t : List (Nat × TV)) (h : Heap) (nx : Nat) : List Oper → Nat → List DE → List (Nat × Bool) → (List DE → Prop) → Prop
  | [], _, T, _, K => K T
  | o :: rest, i, T, G, K =>
    let H := dsee an wr h T i o
    let go := fun G =>
      match evalD X ops an (dread ops an T t i) H G (nx + 32 * i) i o.op with
      | .ok v δ => bif dOkS (nx + 32 * i) H δ then drun X ops an wr t h nx rest (i + 1) (⟨i, o.dst, v, δ, H, false⟩ :: T) G K else False
      | .ob p v δ => bif dOkS (nx + 32 * i) H δ then AOb p (drun X ops an wr t h nx rest (i + 1) (⟨i, o.dst, v, δ, H, false⟩ :: T) G K) else False
      | .call f args => ADCall X f args H (nx + 32 * i) fun v δ => drun X ops an wr t h nx rest (i + 1) (⟨i, o.dst, v, δ, H, false⟩ :: T) G K
      | _ => False
    let pass := fun G => drun X ops an wr t h nx rest (i + 1) (⟨i, o.dst, .any, [], H, true⟩ :: T) G K
    match dwant an T G i o with
    | .go => go G
    | .pass => pass G
    | .ask j true b => ABr b (go ((j, true) :: G)) (pass ((j, false) :: G))
    | .ask j false b => ABr b (pass ((j, true) :: G)) (go ((j, false) :: G))
    | .bad => False

def disj (a b : Heap) : Bool := a.all fun p => (hlook b p.1).isNone

def dcheckOne (an : List Nat) (i : Nat) (δ H : Heap) : List DE → Bool
  | [] => true
  | ⟨j, _, _, δ', H', _⟩ :: r => (bif unord an i j then disj δ H' && disj δ' H && disj δ δ' else true) && dcheckOne an i δ H r

theorem dcheckOne_cons (an : List Nat) (i : Nat) (δ H : Heap) (f : DE) (r : List DE) : dcheckOne an i δ H (f :: r) = ((bif unord an i f.i then disj δ f.H && disj f.δ H && disj δ f.δ else true) && dcheckOne an i δ H r) := by cases f; rfl

def dcheck (an : List Nat) : List DE → Bool
  | [] => true
  | ⟨i, _, _, δ, H, _⟩ :: r => dcheckOne an i δ H r && dcheck an r

theorem dcheck_cons (an : List Nat) (e : DE) (r : List DE) : dcheck an (e :: r) = (dcheckOne an e.i e.δ e.H r && dcheck an r) := by cases e; rfl

def dtemps : List DE → List (Nat × TV)
  | [] => []
  | ⟨_, dst, v, _, _, _⟩ :: r => match dst with | some d => (d, v) :: dtemps r | none => dtemps r

theorem dtemps_cons (e : DE) (r : List DE) : dtemps (e :: r) = match e.dst with | some d => (d, e.tv) :: dtemps r | none => dtemps r := by cases e; rfl

def adraw (X : Ctx) (ops : List Oper) (t : List (Nat × TV)) (h : Heap) (nx : Nat) (K : List (Nat × TV) → Heap → Prop) : Prop :=
  bif backAll 0 ops then
    drun X ops (ancs ops []) (dwriters ops t 0 ops) t h nx ops 0 [] [] fun T =>
      bif dcheck (ancs ops []) T then K (dtemps T ++ t) (foldH (fun _ => true) h T) else False
  else False

/-- Names that are handed over stay what they are. -/
def fixOk (ρ : List (Nat × Nat)) (h : Heap) : Bool := ρ.all (fun p => !(fixed p.2) || Nat.beq p.1 p.2) && h.all fun p => !(fixed p.1) || (nmTo ρ p.1).isSome

structure AS.Le (ρ : List (Nat × Nat)) (s s' : AS) : Prop where
  t : LeTs ρ s.h s'.h s.t s'.t
  h : LeH ρ s.h s'.h s'.h
  ok : (okR ρ && distinct s'.h && below s'.nx s'.h && inR s'.h ρ && fixOk ρ s'.h && Nat.ble 32 s'.nx) = true

inductive ALe (s s' : AS) : Prop
  | mk (ρ : List (Nat × Nat)) (h : s.Le ρ s')

def anext (F : AS → (AExit → AS → Prop) → Prop) (Q : AExit → AS → Prop) : AExit → AS → Prop
  | .normal, s => F s Q
  | .exit id, s => Q (.exit id) s
  | .ret, s => Q .ret s

def ablock (id : Nat) (Q : AExit → AS → Prop) : AExit → AS → Prop
  | .exit i, s => bif Nat.beq i id then Q .normal s else Q (.exit i) s
  | .normal, s => Q .normal s
  | .ret, s => Q .ret s

/-- A round's end: the state at the loop's head, at a smaller number. -/
inductive ARound {ι : Type} (S : ι → AS) (m : ι → Nat) (x : ι) (s : AS) : Prop
  | mk (y : ι) (lt : m y < m x) (le : ALe s (S y))

def around {ι : Type} (S : ι → AS) (m : ι → Nat) (x : ι) (Q : AExit → AS → Prop) : AExit → AS → Prop
  | .normal, s => ARound S m x s
  | .exit id, s => Q (.exit id) s
  | .ret, s => Q .ret s

inductive ALoop (F : AS → (AExit → AS → Prop) → Prop) : Nat → AS → (AExit → AS → Prop) → Prop
  | inv {s : AS} {Q : AExit → AS → Prop} {ι : Type} (S : ι → AS) (m : ι → Nat) (x0 : ι) (start : ALe s (S x0)) (round : ∀ x, F (S x) (around S m x Q)) : ALoop F 0 s Q
  | unroll {s : AS} {Q : AExit → AS → Prop} {n : Nat} (K : AExit → AS → Prop) (h : F s K) (hn : ∀ s', K .normal s' → ALoop F n s' Q) (he : ∀ id s', K (.exit id) s' → Q (.exit id) s') (hr : ∀ s', K .ret s' → Q .ret s') : ALoop F (n + 1) s Q

def aregion (X : Ctx) (nt : Nat) (ops : List Oper) (draw : Bool) : AS → (AExit → AS → Prop) → Prop
  | ⟨t, h, nx⟩, Q =>
    bif !(uniq nt ops []) then False else bif draw then adraw X ops t h nx fun t h => Q .normal ⟨t, h, nx + 32 * ops.length⟩ else
      areg X ops t nx ops 0 ⟨[], [], [], [], h⟩ fun R => Q .normal ⟨R.strip ++ t, R.h, nx + 32 * ops.length⟩

def awp (X : Ctx) (nt : Nat) : Code → AS → (AExit → AS → Prop) → Prop
  | .skip, s, Q => Q .normal s
  | .seq a b, s, Q => awp X nt a s (anext (awp X nt b) Q)
  | .cond c a b, s, Q => match X.opd (look .any s.t) c with
    | .c (.d (.lit (.bool v))) => ABr v (awp X nt a s Q) (awp X nt b s Q)
    | _ => False
  | .block id b, s, Q => awp X nt b s (ablock id Q)
  | .loop b, s, Q => ∃ n, ALoop (awp X nt b) n s Q
  | .ret, s, Q => Q .ret s
  | .exit id, s, Q => Q (.exit id) s
  | .region _ ops draw, s, Q =>
    aregion X nt ops.toList draw s Q
  | _, _, _ => False

/-! The results. -/
def resTV (X : Ctx) (s : AS) : ResultVar → Option TV
  | .tmp t => some (look .any s.t t)
  | .cell a t => match aLoad X s.h t (look .any s.t a) with | .ok v [] => some v | _ => none

def resAll (X : Ctx) (s : AS) : List ResultVar → Option (List TV)
  | [] => some []
  | r :: rs => match resTV X s r, resAll X s rs with | some v, some vs => some (v :: vs) | _, _ => none

def one : List TV → TV
  | [v] => v
  | vs => .tup vs

inductive ARet (Q : Heap → TV → Prop) (s : AS) (vs : List TV) : Prop
  | mk (ρ : List (Nat × Nat)) (H : Heap) (ws : List TV) (hv : LeV ρ s.h H vs ws) (hh : LeH ρ s.h H H) (ok : (okR ρ && distinct H && below 32 H && inR H ρ && fixOk ρ H) = true) (hq : Q H (one ws))

def apost (X : Ctx) (fn : Func) (Q : Heap → TV → Prop) : AExit → AS → Prop
  | .normal, s => match resAll X s fn.results.toList with | some vs => ARet Q s vs | none => False
  | .ret, s => match resAll X s fn.results.toList with | some vs => ARet Q s vs | none => False
  | .exit _, _ => False

def argT : Nat → List TV → List (Nat × TV)
  | _, [] => []
  | i, v :: r => (i, v) :: argT (i + 1) r

def Den (X : Ctx) (fn : Func) (H : Heap) (args : List TV) (Q : Heap → TV → Prop) : Prop :=
  match fn.body with
  | some c => Nat.ble args.length fn.ntmps = true ∧ awp X fn.ntmps c ⟨argT 0 args, H, 32⟩ (apost X fn Q)
  | none => False

end Go.Abs
