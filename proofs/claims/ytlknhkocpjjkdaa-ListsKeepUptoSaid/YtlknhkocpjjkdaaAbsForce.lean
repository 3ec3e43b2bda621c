/- The same walk, with all values written out at each step: no thunk is left behind. -/
import Derived.Test.YtlknhkocpjjkdaaAbsEq
set_option linter.all false
set_option linter.unusedVariables false
set_option linter.unusedSimpArgs false
namespace Go.Abs

def fV (v : Value) (k : Value → Prop) : Prop :=
  match v with
  | .int a n => k (.int a n)
  | .bool b => k (.bool b)
  | .slice a n c => k (.slice a n c)
  | v => k v

def fD0 (x : DV) (k : DV → Prop) : Prop :=
  match x with
  | .lit v => fV v fun v => k (.lit v)
  | .sl e l => k (.sl e l)
  | .rp xs => k (.rp xs)
  | .fn f a b => k (.fn f a b)

def fDL : List DV → (List DV → Prop) → Prop
  | [], k => k []
  | x :: r, k => fD0 x fun x => fDL r fun r => k (x :: r)

def fD (x : DV) (k : DV → Prop) : Prop :=
  match x with
  | .lit v => fV v fun v => k (.lit v)
  | .sl e l => k (.sl e l)
  | .rp xs => fDL xs fun xs => k (.rp xs)
  | .fn f a b => fDL a fun a => fDL b fun b => k (.fn f a b)

def fC (x : CV) (k : CV → Prop) : Prop :=
  match x with
  | .d x => fD x fun x => k (.d x)
  | .ptr b i o => k (.ptr b i o)
  | .own b => k (.own b)
  | .view b o n => k (.view b o n)
  | .cl f a b => k (.cl f a b)
  | .any => k .any

def fCL : List CV → (List CV → Prop) → Prop
  | [], k => k []
  | x :: r, k => fC x fun x => fCL r fun r => k (x :: r)

def fT0 (x : TV) (k : TV → Prop) : Prop :=
  match x with
  | .c x => fC x fun x => k (.c x)
  | .agg xs => fCL xs fun xs => k (.agg xs)
  | .tup vs => k (.tup vs)
  | .any => k .any

def fTL : List TV → (List TV → Prop) → Prop
  | [], k => k []
  | x :: r, k => fT0 x fun x => fTL r fun r => k (x :: r)

def fT (x : TV) (k : TV → Prop) : Prop :=
  match x with
  | .c x => fC x fun x => k (.c x)
  | .agg xs => fCL xs fun xs => k (.agg xs)
  | .tup vs => fTL vs fun vs => k (.tup vs)
  | .any => k .any

def fB (x : AB) (k : AB → Prop) : Prop :=
  match x with
  | .vars cs => fCL cs fun cs => k (.vars cs)
  | .data e l => k (.data e l)
  | .dead => k .dead

def fH : Heap → (Heap → Prop) → Prop
  | [], k => k []
  | (b, x) :: r, k => fB x fun x => fH r fun r => k ((b, x) :: r)

def appK : Heap → Heap → (Heap → Prop) → Prop
  | [], h, k => k h
  | p :: δ, h, k => appK δ h fun h => k (p :: h)

def fN (n : Nat) (k : Nat → Prop) : Prop :=
  match n with
  | 0 => k 0
  | n + 1 => k (n + 1)

theorem fV_eq (v : Value) (k : Value → Prop) : fV v k = k v := by cases v <;> rfl
theorem fD0_eq (x : DV) (k : DV → Prop) : fD0 x k = k x := by cases x <;> simp only [fD0, fV_eq]
theorem fDL_eq : ∀ (x : List DV) (k : List DV → Prop), fDL x k = k x
  | [], _ => rfl
  | x :: r, k => by simp only [fDL, fD0_eq, fDL_eq r]
theorem fD_eq (x : DV) (k : DV → Prop) : fD x k = k x := by cases x <;> simp only [fD, fV_eq, fDL_eq]
theorem fC_eq (x : CV) (k : CV → Prop) : fC x k = k x := by cases x <;> simp only [fC, fD_eq]
theorem fCL_eq : ∀ (x : List CV) (k : List CV → Prop), fCL x k = k x
  | [], _ => rfl
  | x :: r, k => by simp only [fCL, fC_eq, fCL_eq r]
theorem fT0_eq (x : TV) (k : TV → Prop) : fT0 x k = k x := by cases x <;> simp only [fT0, fC_eq, fCL_eq]
theorem fTL_eq : ∀ (x : List TV) (k : List TV → Prop), fTL x k = k x
  | [], _ => rfl
  | x :: r, k => by simp only [fTL, fT0_eq, fTL_eq r]
theorem fT_eq (x : TV) (k : TV → Prop) : fT x k = k x := by cases x <;> simp only [fT, fC_eq, fCL_eq, fTL_eq]
theorem fB_eq (x : AB) (k : AB → Prop) : fB x k = k x := by cases x <;> simp only [fB, fCL_eq]
theorem fH_eq : ∀ (x : Heap) (k : Heap → Prop), fH x k = k x
  | [], _ => rfl
  | (b, x) :: r, k => by simp only [fH, fB_eq, fH_eq r]
theorem appK_eq : ∀ (δ h : Heap) (k : Heap → Prop), appK δ h k = k (δ ++ h)
  | [], _, _ => rfl
  | p :: δ, h, k => by simp only [appK, appK_eq δ h]; rfl
theorem fN_eq (n : Nat) (k : Nat → Prop) : fN n k = k n := by cases n <;> rfl

/-- An operation's outcome is put away. -/
def putK (R : RS) (i : Nat) (dst : Option Nat) (own L : Chain) (v : TV) (δ : Heap) (k : RS → Prop) : Prop :=
  match R, dst with
  | ⟨r, ch, kt, kf, h⟩, some d => appK δ h fun h => k ⟨(d, L, v) :: r, (i, own) :: ch, kt, kf, h⟩
  | ⟨r, ch, kt, kf, h⟩, none => appK δ h fun h => k ⟨r, (i, own) :: ch, kt, kf, h⟩

theorem putK_eq (R : RS) (i : Nat) (dst : Option Nat) (own L : Chain) (v : TV) (δ : Heap) (k : RS → Prop) : putK R i dst own L v δ k = k (R.put i dst own L v δ) := by
  cases R
  cases dst <;> simp only [putK, appK_eq, RS.put]

def RS.addT (L : Chain) : RS → RS
  | ⟨r, ch, kt, kf, h⟩ => ⟨r, ch, L :: kt, kf, h⟩
def RS.addF (L : Chain) : RS → RS
  | ⟨r, ch, kt, kf, h⟩ => ⟨r, ch, kt, L :: kf, h⟩

def arunF (X : Ctx) (ops : List Oper) (t : List (Nat × TV)) (base i : Nat) (o : Oper) (R : RS) (L : Chain) (k : RS → Prop) : Prop :=
  match evalR X ops R t L base i o.op with
  | .ok v δ => bif dOk base δ then fT v fun v => fH δ fun δ => putK R i o.dst L [] v δ k else False
  | .ob p v δ => bif dOk base δ then AOb p (fT v fun v => fH δ fun δ => putK R i o.dst L [] v δ k) else False
  | .dem p => ∀ b, p b → putK R i o.dst L [] (.bo b) [] k
  | .call f args => fTL args fun args => ACall X f args R.h base fun v δ => fT v fun v => fH δ fun δ => putK R i o.dst L [] v δ k
  | .bad => False

theorem arunF_eq (X : Ctx) (ops : List Oper) (t : List (Nat × TV)) (base i : Nat) (o : Oper) (R : RS) (L : Chain) (k : RS → Prop) : arunF X ops t base i o R L k = arun X ops t base i o R L k := by
  unfold arunF arun
  cases evalR X ops R t L base i o.op <;> simp only [fT_eq, fH_eq, fTL_eq, putK_eq]

def astepF (X : Ctx) (ops : List Oper) (t : List (Nat × TV)) (base i : Nat) (o : Oper) (R : RS) (k : RS → Prop) : Prop :=
  match R.chainAt o with
  | none => False
  | some L =>
    bif Chain.ends R.kf L then putK R i o.dst L [] .any [] k
    else bif L.beq [] || Chain.mem L R.kt then arunF X ops t base i o R L k
    else
      match R.cond ops L with
      | none => False
      | some c =>
        match evalR X ops R t L base i o.op with
        | .ok v [] => fT v fun v => putK R i o.dst L L v [] k
        | .ob p v [] => AOb (c → p) (fT v fun v => putK R i o.dst L L v [] k)
        | _ => AIf c (arunF X ops t base i o (R.addT L) L k) (putK (R.addF L) i o.dst L [] .any [] k)

theorem astepF_eq (X : Ctx) (ops : List Oper) (t : List (Nat × TV)) (base i : Nat) (o : Oper) (R : RS) (k : RS → Prop) : astepF X ops t base i o R k = astep X ops t base i o R k := by
  unfold astepF astep
  have e1 : ∀ L, R.addT L = { R with kt := L :: R.kt } := by intro L; cases R; rfl
  have e2 : ∀ L, R.addF L = { R with kf := L :: R.kf } := by intro L; cases R; rfl
  cases R.chainAt o with
  | none => simp only []
  | some L =>
    simp only [putK_eq, arunF_eq, fT_eq, e1, e2]
    cases R.cond ops L with
    | none => simp only []
    | some c =>
      simp only []
      cases evalR X ops R t L base i o.op with
      | ok v δ => cases δ <;> simp only []
      | ob p v δ => cases δ <;> simp only []
      | dem p => simp only []
      | call f args => simp only []
      | bad => simp only []

def aregF (X : Ctx) (ops : List Oper) (t : List (Nat × TV)) (nx : Nat) : List Oper → Nat → RS → (RS → Prop) → Prop
  | [], _, R, K => K R
  | o :: rest, i, R, K => astepF X ops t (nx + 32 * i) i o R fun R' => aregF X ops t nx rest (i + 1) R' K

theorem aregF_eq (X : Ctx) (ops : List Oper) (t : List (Nat × TV)) (nx : Nat) : ∀ (rest : List Oper) (i : Nat) (R : RS) (K : RS → Prop), aregF X ops t nx rest i R K = areg X ops t nx rest i R K
  | [], _, _, _ => rfl
  | o :: rest, i, R, K => by
    simp only [aregF, areg, astepF_eq]
    congr 1
    funext R'
    exact aregF_eq X ops t nx rest (i + 1) R' K

def stripK (kt : List Chain) : List (Nat × Chain × TV) → List (Nat × TV) → (List (Nat × TV) → Prop) → Prop
  | [], t, k => k t
  | (s, c, v) :: r, t, k => stripK kt r t fun t => bif c.beq [] || c.mem kt then k ((s, v) :: t) else k ((s, .any) :: t)

theorem stripK_eq (kt : List Chain) (t : List (Nat × TV)) : ∀ (r : List (Nat × Chain × TV)) (k : List (Nat × TV) → Prop), stripK kt r t k = k (r.map (fun (s, c, v) => (s, bif c.beq [] || c.mem kt then v else .any)) ++ t)
  | [], _ => rfl
  | (s, c, v) :: r, k => by
    simp only [stripK, stripK_eq kt t r]
    cases hc : c.beq [] || c.mem kt <;> simp [hc]

def endK (t : List (Nat × TV)) (nx n : Nat) (Q : AExit → AS → Prop) : RS → Prop
  | ⟨r, _, kt, _, h⟩ => stripK kt r t fun t => fN (nx + 32 * n) fun nx => Q .normal ⟨t, h, nx⟩

def dgoF (X : Ctx) (ops : List Oper) (an : List Nat) (t : List (Nat × TV)) (nx i : Nat) (o : Oper) (T : List DE) (H : Heap) (G : List (Nat × Bool)) (K : List DE → List (Nat × Bool) → Prop) : Prop :=
  match evalD X ops an (dread ops an T t i) H G (nx + 32 * i) i o.op with
  | .ok v δ => bif dOkS (nx + 32 * i) H δ then fT v fun v => fH δ fun δ => K (⟨i, o.dst, v, δ, H, false⟩ :: T) G else False
  | .ob p v δ => bif dOkS (nx + 32 * i) H δ then AOb p (fT v fun v => fH δ fun δ => K (⟨i, o.dst, v, δ, H, false⟩ :: T) G) else False
  | .call f args => fTL args fun args => ADCall X f args H (nx + 32 * i) fun v δ => fT v fun v => fH δ fun δ => K (⟨i, o.dst, v, δ, H, false⟩ :: T) G
  | _ => False

def dstepF (X : Ctx) (ops : List Oper) (an : List Nat) (t : List (Nat × TV)) (nx i : Nat) (o : Oper) (T : List DE) (G : List (Nat × Bool)) (K : List DE → List (Nat × Bool) → Prop) (H : Heap) : Prop :=
  match dwant an T G i o with
  | .go => dgoF X ops an t nx i o T H G K
  | .pass => K (⟨i, o.dst, .any, [], H, true⟩ :: T) G
  | .ask j true b => ABr b (dgoF X ops an t nx i o T H ((j, true) :: G) K) (K (⟨i, o.dst, .any, [], H, true⟩ :: T) ((j, false) :: G))
  | .ask j false b => ABr b (K (⟨i, o.dst, .any, [], H, true⟩ :: T) ((j, true) :: G)) (dgoF X ops an t nx i o T H ((j, false) :: G) K)
  | .bad => False

def drunF (X : Ctx) (ops : List Oper) (an : List Nat) (wr : List (Nat × Nat)) (t : List (Nat × TV)) (h : Heap) (nx : Nat) : List Oper → Nat → List DE → List (Nat × Bool) → (List DE → Prop) → Prop
  | [], _, T, _, K => K T
  | o :: rest, i, T, G, K => fH (dsee an wr h T i o) (dstepF X ops an t nx i o T G fun T G => drunF X ops an wr t h nx rest (i + 1) T G K)

theorem drunF_eq (X : Ctx) (ops : List Oper) (an : List Nat) (wr : List (Nat × Nat)) (t : List (Nat × TV)) (h : Heap) (nx : Nat) : ∀ (rest : List Oper) (i : Nat) (T : List DE) (G : List (Nat × Bool)) (K : List DE → Prop), drunF X ops an wr t h nx rest i T G K = drun X ops an wr t h nx rest i T G K
  | [], _, _, _, _ => rfl
  | o :: rest, i, T, G, K => by
    simp only [drunF, drun, fH_eq, dstepF, dgoF, fT_eq, fTL_eq, drunF_eq X ops an wr t h nx rest]
    cases dwant an T G i o with
    | go => simp only []; cases evalD X ops an (dread ops an T t i) (dsee an wr h T i o) G (nx + 32 * i) i o.op <;> simp only []
    | pass => simp only []
    | ask j w b =>
      cases w with
      | true => simp only []; cases evalD X ops an (dread ops an T t i) (dsee an wr h T i o) ((j, true) :: G) (nx + 32 * i) i o.op <;> simp only []
      | false => simp only []; cases evalD X ops an (dread ops an T t i) (dsee an wr h T i o) ((j, false) :: G) (nx + 32 * i) i o.op <;> simp only []
    | bad => simp only []

def dtempsK : List DE → List (Nat × TV) → (List (Nat × TV) → Prop) → Prop
  | [], t, k => k t
  | ⟨_, some d, v, _, _, _⟩ :: r, t, k => dtempsK r t fun t => k ((d, v) :: t)
  | ⟨_, none, _, _, _, _⟩ :: r, t, k => dtempsK r t k

theorem dtempsK_eq (t : List (Nat × TV)) : ∀ (T : List DE) (k : List (Nat × TV) → Prop), dtempsK T t k = k (dtemps T ++ t)
  | [], _ => rfl
  | ⟨_, some d, v, _, _, _⟩ :: r, k => by simp only [dtempsK, dtempsK_eq t r, dtemps]; rfl
  | ⟨_, none, _, _, _, _⟩ :: r, k => by simp only [dtempsK, dtempsK_eq t r, dtemps]

def adrawF (X : Ctx) (ops : List Oper) (t : List (Nat × TV)) (h : Heap) (nx : Nat) (K : List (Nat × TV) → Heap → Prop) : Prop :=
  bif backAll 0 ops then
    drunF X ops (ancs ops []) (dwriters ops t 0 ops) t h nx ops 0 [] [] fun T =>
      bif dcheck (ancs ops []) T then dtempsK T t fun t => fH (foldH (fun _ => true) h T) fun h => K t h else False
  else False

theorem adrawF_eq (X : Ctx) (ops : List Oper) (t : List (Nat × TV)) (h : Heap) (nx : Nat) (K : List (Nat × TV) → Heap → Prop) : adrawF X ops t h nx K = adraw X ops t h nx K := by
  simp only [adrawF, adraw, drunF_eq, dtempsK_eq, fH_eq]

def aregionF (X : Ctx) (nt : Nat) (ops : List Oper) (draw : Bool) : AS → (AExit → AS → Prop) → Prop
  | ⟨t, h, nx⟩, Q =>
    bif !(uniq nt ops []) then False else bif draw then adrawF X ops t h nx fun t h => fN (nx + 32 * ops.length) fun nx => Q .normal ⟨t, h, nx⟩ else
      aregF X ops t nx ops 0 ⟨[], [], [], [], h⟩ (endK t nx ops.length Q)

theorem aregionF_eq (X : Ctx) (nt : Nat) (ops : List Oper) (draw : Bool) (s : AS) (Q : AExit → AS → Prop) : aregionF X nt ops draw s Q = aregion X nt ops draw s Q := by
  cases s with | mk t h nx =>
  simp only [aregionF, aregion, adrawF_eq, fN_eq, aregF_eq]
  congr 1
  congr 1
  congr 1
  funext R
  cases R
  simp only [endK, stripK_eq, fN_eq, RS.strip]

def awpF (X : Ctx) (nt : Nat) : Code → AS → (AExit → AS → Prop) → Prop
  | .skip, s, Q => Q .normal s
  | .seq a b, s, Q => awpF X nt a s (anext (awpF X nt b) Q)
  | .cond c a b, s, Q => match X.opd (look .any s.t) c with
    | .c (.d (.lit (.bool v))) => ABr v (awpF X nt a s Q) (awpF X nt b s Q)
    | _ => False
  | .block id b, s, Q => awpF X nt b s (ablock id Q)
  | .loop b, s, Q => ∃ n, ALoop (awpF X nt b) n s Q
  | .ret, s, Q => Q .ret s
  | .exit id, s, Q => Q (.exit id) s
  | .region _ ops draw, s, Q => aregionF X nt ops.toList draw s Q
  | _, _, _ => False

theorem awpF_eq (X : Ctx) (nt : Nat) : ∀ (c : Code), awpF X nt c = awp X nt c
  | .skip => rfl
  | .ret => rfl
  | .exit id => rfl
  | .seq a b => by funext s Q; simp only [awpF, awp, awpF_eq X nt a, awpF_eq X nt b]
  | .cond c a b => by
    funext s Q
    simp only [awpF, awp, awpF_eq X nt a, awpF_eq X nt b]
    cases X.opd (look .any s.t) c with
    | c x => cases x with
      | d y => cases y with
        | lit v => cases v <;> simp only []
        | _ => simp only []
      | _ => simp only []
    | _ => simp only []
  | .block id b => by funext s Q; simp only [awpF, awp, awpF_eq X nt b]
  | .loop b => by funext s Q; simp only [awpF, awp, awpF_eq X nt b]
  | .region _ ops draw => by funext s Q; exact aregionF_eq X nt ops.toList draw s Q
  | .scope _ => rfl
  | .label _ => rfl
  | .goto _ => rfl
  | .rangeFunc .. => rfl
  | .refuse _ => rfl

def DenF (X : Ctx) (fn : Func) (H : Heap) (args : List TV) (Q : Heap → TV → Prop) : Prop :=
  match fn.body with
  | some c => Nat.ble args.length fn.ntmps = true ∧ fTL args fun args => awpF X fn.ntmps c ⟨argT 0 args, H, 32⟩ (apost X fn Q)
  | none => False

theorem DenF_eq (X : Ctx) (fn : Func) (H : Heap) (args : List TV) (Q : Heap → TV → Prop) : DenF X fn H args Q = Den X fn H args Q := by
  unfold DenF Den
  simp only [fTL_eq, awpF_eq]
  cases fn.body <;> simp only []

theorem spec_go {X : Ctx} (hX : XOk X) {f : Nat} (fn : Func) (hf : X.P.funcs[f]? = some fn) (hn : (fn.name == "runtime.NumGoroutine") = false) (hb : fn.body.isNone = false) {H : Heap} {args : List TV} {Q : Heap → TV → Prop} (h : bdL args → bdH H → DenF X fn H args Q) : Spec X f H args Q :=
  spec_walk hX fn hf hn hb fun h1 h2 => by rw [← DenF_eq]; exact h h1 h2

end Go.Abs
