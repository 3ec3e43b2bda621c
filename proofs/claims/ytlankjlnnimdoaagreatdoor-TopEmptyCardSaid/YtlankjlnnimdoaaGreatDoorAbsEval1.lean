/- The abstract values, blocks and states; and what an operation comes to, over them. -/
import Derived.Calls
set_option linter.all false
namespace Go.Abs
structure Op where
 kind:Int
 a:Int
 b:Int
 c:Int
 deriving DecidableEq,Inhabited
structure Page where
 kind:Int
 arg:Int
 deriving DecidableEq,Inhabited
structure Lists where
 l0:List Int
 l1:List Int
 l2:List Int
 deriving DecidableEq,Inhabited
structure Thread where
 live:Bool
 r0:Int
 r1:Int
 r2:Int
 r3:Int
 cache:Lists
 epoch:Int
 stage:Int
 root:Int
 ops:List Op
 pc:Int
 x:Int
 y:Int
 deriving DecidableEq,Inhabited
structure Res where
 thread:Int
 op:Op
 e:Int
 val:Int
 deriving DecidableEq,Inhabited
structure Pair where
 fst:Int
 snd:Int
 deriving DecidableEq,Inhabited
inductive EK where
 |int|bool|page|op|lists|thread|res|pair|ints|opss
 deriving DecidableEq
def EK.T:EK->Type
 |.int=>Int
 |.bool=>Bool
 |.page=>Page
 |.op=>Op
 |.lists=>Lists
 |.thread=>Thread
 |.res=>Res
 |.pair=>Pair
 |.ints=>List Int
 |.opss=>List Op
instance EK.inh (k:EK):Inhabited k.T:=by
 cases k<;>simp only[EK.T]<;>infer_instance
def EK.size:EK->Nat
 |.int|.bool|.ints|.opss=>1
 |.page|.pair=>2
 |.op=>4
 |.lists=>3
 |.thread=>15
 |.res=>7
inductive DV where
 |lit (v:Value)
 |sl (k:EK) (l:List k.T)
 |rp (xs:List DV)
 |fn (f:Nat) (first caps:List DV)
 |mp (l:List (Int×Bool))
abbrev DV.int (n:Int):DV:=.lit (.int .i64 n)
abbrev DV.bo (b:Bool):DV:=.lit (.bool b)
abbrev DV.nilsl:DV:=.lit (.slice none 0 0)
def EK.enc:(k:EK)->k.T->List DV
 |.int,n=>[DV.int n]
 |.bool,b=>[DV.bo b]
 |.page,p=>[DV.int p.kind,DV.int p.arg]
 |.op,o=>[DV.int o.kind,DV.int o.a,DV.int o.b,DV.int o.c]
 |.lists,l=>[.sl .int l.l0,.sl .int l.l1,.sl .int l.l2]
 |.thread,t=>[DV.bo t.live,DV.int t.r0,DV.int t.r1,DV.int t.r2,DV.int t.r3,.sl .int t.cache.l0,.sl .int t.cache.l1,.sl .int t.cache.l2,
   DV.int t.epoch,DV.int t.stage,DV.int t.root,.sl .op t.ops,DV.int t.pc,DV.int t.x,DV.int t.y]
 |.res,r=>[DV.int r.thread,DV.int r.op.kind,DV.int r.op.a,DV.int r.op.b,DV.int r.op.c,DV.int r.e,DV.int r.val]
 |.pair,p=>[DV.int p.fst,DV.int p.snd]
 |.ints,l=>[.sl .int l]
 |.opss,l=>[.sl .op l]
inductive CV where
 |d (x:DV)
 |ptr (b i off:Nat)
 |own (b:Nat)
 |view (b o n:Nat)
 |cl (f:Nat) (first caps:List CV)
 |any
inductive TV where
 |c (x:CV)
 |agg (xs:List CV)
 |tup (vs:List TV)
 |any
abbrev TV.lit (v:Value):TV:=.c (.d (.lit v))
abbrev TV.int (n:Int):TV:=.c (.d (.lit (.int .i64 n)))
abbrev TV.bo (b:Bool):TV:=.c (.d (.lit (.bool b)))
abbrev TV.dagg (xs:List DV):TV:=.agg (xs.map .d)
inductive AB where
 |vars (cs:List CV)
 |data (k:EK) (l:List k.T)
 |hole (k:EK) (l:List k.T) (i off b:Nat)
 |dead
 |map (l:List (Int×CV))
 |ghost (P:Program) (l:Nat) (rest:Option (List (Int×Int)))
inductive TK where
 |bool
 |int (k:IntKind)
 |slc (e:Nat)
 |arr (n e:Nat)
 |st (fs:List (Nat×Nat))
 |mp (k e:Nat)
 |other
structure TI where
 k:TK
 size:Nat
 bytes:Nat
 zero:List DV
 ek:Option EK
 eqf:Bool
 ok:Bool
abbrev zg:=List (Nat×AB)
def look {α:Type} (d:α):List (Nat×α)->Nat->α
 |[],_=>d
 |(i,x)::r,n=>bif Nat.beq i n then x else look d r n
def zh:zg->Nat->Option AB
 |[],_=>none
 |(i,x)::r,n=>bif Nat.beq i n then some x else zh r n
def TV.cells:TV->Option (List CV)
 |.c x=>some [x]
 |.agg xs=>some xs
 |_=>none
def zjh (agg:Bool) (cs:List CV):TV:=
 match agg,cs with
 |true,cs=>.agg cs
 |false,[x]=>.c x
 |false,_=>.any
def TI.isAgg (t:TI):Bool:=match t.k with|.arr .. | .st ..=>true|_=>false
def isInts:List CV->Option (List DV)
 |[]=>some []
 |.d x::r=>(isInts r).map (x::·)
 |_=>none
def DV.toInts:DV->Option (List Int)
 |.sl .int l=>some l
 |.lit (.slice none 0 0)=>some []
 |_=>none
def DV.toOps:DV->Option (List Op)
 |.sl .op l=>some l
 |.lit (.slice none 0 0)=>some []
 |_=>none
def EK.fit:(k:EK)->List CV->Option k.T
 |.int=>fun cs=>match cs with
  |[.d (.lit (.int .i64 n))]=>some n
  |_=>none
 |.bool=>fun cs=>match cs with
  |[.d (.lit (.bool b))]=>some b
  |_=>none
 |.page=>fun cs=>match cs with
  |[.d (.lit (.int .i64 a)),.d (.lit (.int .i64 b))]=>some ⟨a,b⟩
  |_=>none
 |.pair=>fun cs=>match cs with
  |[.d (.lit (.int .i64 a)),.d (.lit (.int .i64 b))]=>some ⟨a,b⟩
  |_=>none
 |.op=>fun cs=>match cs with
  |[.d (.lit (.int .i64 k)),.d (.lit (.int .i64 a)),.d (.lit (.int .i64 b)),.d (.lit (.int .i64 c))]=>some ⟨k,a,b,c⟩
  |_=>none
 |.lists=>fun cs=>match cs with
  |[.d a,.d b,.d c]=>
   match a.toInts,b.toInts,c.toInts with
   |some a,some b,some c=>some ⟨a,b,c⟩
   |_,_,_=>none
  |_=>none
 |.thread=>fun cs=>match cs with
  |[.d (.lit (.bool live)),.d (.lit (.int .i64 r0)),.d (.lit (.int .i64 r1)),.d (.lit (.int .i64 r2)),.d (.lit (.int .i64 r3)),.d c0,.d c1,.d c2,
    .d (.lit (.int .i64 e)),.d (.lit (.int .i64 s)),.d (.lit (.int .i64 r)),.d o,.d (.lit (.int .i64 pc)),.d (.lit (.int .i64 x)),.d (.lit (.int .i64 y))]=>
   match c0.toInts,c1.toInts,c2.toInts,o.toOps with
   |some c0,some c1,some c2,some o=>some ⟨live,r0,r1,r2,r3,⟨c0,c1,c2⟩,e,s,r,o,pc,x,y⟩
   |_,_,_,_=>none
  |_=>none
 |.res=>fun cs=>match cs with
  |[.d (.lit (.int .i64 t)),.d (.lit (.int .i64 k)),.d (.lit (.int .i64 a)),.d (.lit (.int .i64 b)),.d (.lit (.int .i64 c)),.d (.lit (.int .i64 e)),.d (.lit (.int .i64 v))]=>
   some ⟨t,⟨k,a,b,c⟩,e,v⟩
  |_=>none
 |.ints=>fun cs=>match cs with
  |[.d a]=>a.toInts
  |_=>none
 |.opss=>fun cs=>match cs with
  |[.d a]=>a.toOps
  |_=>none
inductive ER where
 |ok (tv:TV) (δ:zg)
 |ob (p:Prop) (tv:TV) (δ:zg)
 |dem (p:Bool->Prop)
 |call (f:Nat) (args post:List TV)
 |yld (l:Nat) (args:List TV)
 |bad
def zyL (op:BinOp) (k:IntKind) (a b:Int):ER:=
 match op with
 |.add=>.ok (.lit (.int k (k.wrap (a+b)))) []
 |.sub=>.ok (.lit (.int k (k.wrap (a-b)))) []
 |.mul=>.ok (.lit (.int k (k.wrap (a*b)))) []
 |.quo=>.ob (b≠0) (.lit (.int k (k.wrap (a.tdiv b)))) []
 |.rem=>.ob (b≠0) (.lit (.int k (a.tmod b))) []
 |.and=>.ok (.lit (.int k (k.wrap (BitVec.ofInt k.bits a &&& BitVec.ofInt k.bits b).toNat))) []
 |.or=>.ok (.lit (.int k (k.wrap (BitVec.ofInt k.bits a ||| BitVec.ofInt k.bits b).toNat))) []
 |.xor=>.ok (.lit (.int k (k.wrap (BitVec.ofInt k.bits a ^^^ BitVec.ofInt k.bits b).toNat))) []
 |.andNot=>.ok (.lit (.int k (k.wrap (BitVec.ofInt k.bits a &&& ~~~BitVec.ofInt k.bits b).toNat))) []
 |.eql=>.ok (.bo (a==b)) []
 |.neq=>.ok (.bo (a != b)) []
 |.lss=>.ok (.bo (decide (a<b))) []
 |.leq=>.ok (.bo (decide (a<=b))) []
 |.gtr=>.ok (.bo (decide (a>b))) []
 |.geq=>.ok (.bo (decide (a>=b))) []
 |_=>.bad
def zsA (op:BinOp) (k:IntKind) (a b:Int):ER:=
 match op with
 |.shl=>.ob (0<=b) (.lit (.int k (k.wrap (a*2 ^ (min b.toNat k.bits))))) []
 |.shr=>.ob (0<=b) (.lit (.int k (a.fdiv (2 ^ (min b.toNat k.bits))))) []
 |_=>.bad
def zdY:List CV->List CV->Option Bool
 |[],[]=>some true
 |.d (.lit (.int k a))::r,.d (.lit (.int k' b))::s=>bif decide (k=k') then (zdY r s).map (fun e=>(a==b)&&e) else none
 |.d (.lit (.bool a))::r,.d (.lit (.bool b))::s=>(zdY r s).map (fun e=>(a==b)&&e)
 |_,_=>none
def ziK:List DV->List CV->Bool
 |[],[]=>true
 |.lit (.int _ _)::z,.d (.lit (.int _ _))::r=>ziK z r
 |.lit (.bool _)::z,.d (.lit (.bool _))::r=>ziK z r
 |_,_=>false
def zyp (neg:Bool) (r:ER):ER:=
 match neg,r with
 |true,.ok (.c (.d (.lit (.bool b)))) δ=>.ok (.bo !b) δ
 |true,.dem p=>.dem fun b=>p (!b)
 |_,r=>r
def aEq (h:zg) (T:TI) (x y:TV):ER:=
 match x,y with
 |.c (.d (.lit (.bool a))),.c (.d (.lit (.bool b)))=>(match T.k with|.bool=>.ok (.bo (a==b)) []|_=>.bad)
 |.c (.d (.lit (.slice none 0 0))),.c (.d (.lit (.slice none 0 0)))=>(match T.k with|.slc _=>.ok (.bo true) []|_=>.bad)
 |.c (.d (.sl _ l)),.c (.d (.lit (.slice none 0 0)))=>(match T.k with|.slc _=>.dem fun b=>b=true->l=[]|_=>.bad)
 |.c (.own b),.c (.d (.lit (.slice none 0 0)))=>
  match T.k,zh h b with
  |.slc _,some (.data _ l)=>.dem fun b=>b=true->l=[]
  |_,_=>.bad
 |.agg xs,.agg ys=>bif T.eqf&&T.ok&&ziK T.zero xs then (match zdY xs ys with|some b=>.ok (.bo b) []|none=>.bad) else .bad
 |_,_=>.bad
def zyz (h:zg) (T:TI) (op:BinOp) (x y:TV):ER:=
 match x,y with
 |.c (.d (.lit (.int k a))),.c (.d (.lit (.int k' b)))=>
  match op with
  |.shl|.shr=>zsA op k a b
  |op=>bif decide (k=k') then zyL op k a b else .bad
 |x,y=>
  match op with
  |.eql=>aEq h T x y
  |.neq=>zyp true (aEq h T x y)
  |_=>.bad
structure Ctx where
 P:Program
 tt:List (Nat×TI)
 gl:List (Nat×List DV)
 fz:Bool:=false
 fb:Bool:=false
def Ctx.ty (X:Ctx) (t:Nat):TI:=look ⟨.other,0,0,[],none,false,false⟩ X.tt t
def zxI:Value->TV
 |.agg _=>.any
 |.tuple _=>.any
 |v=>.c (.d (.lit v))
def Ctx.opd (X:Ctx) (lk:Nat->TV):Operand->TV
 |.tmp t=>lk t
 |.const v=>zxI v
 |.global g=>match look none (X.gl.map fun(i,x)=>(i,some x)) g with|some xs=>.c (.d (.rp xs))|none=>.any
 |.func f=>.c (.d (.fn f [] []))
def zoZ (h:zg) (sz:Nat):CV->Option (List CV)
 |.ptr b i off=>
  match zh h b with
  |some (.vars cs)=>(match i with|0=>some ((cs.drop off).take sz)|_+1=>none)
  |some (.data k l)=>some ((((k.enc (l.getD i default)).drop off).take sz).map .d)
  |some (.hole _ _ _ off0 b0)=>bif Nat.beq off off0&&Nat.beq sz 1 then some [.own b0] else none
  |_=>none
 |.d (.rp xs)=>some ((xs.take sz).map .d)
 |_=>none
def ziB (h:zg):CV->Option Prop
 |.ptr b i _=>
  match zh h b with
  |some (.vars _)=>none
  |some (.data _ l)=>some (i<l.length)
  |some (.hole _ _ i0 _ _)=>some (i=i0)
  |_=>none
 |_=>none
def zky (h:zg) (b:Nat):Bool:=
 match zh h b with
 |some (.vars _)=>true
 |some (.data _ _)=>true
 |some (.hole _ _ _ _ _)=>true
 |_=>false
def zK {α:Type} (l:List α) (o:Nat) (ys:List α):List α:=l.take o++ys++l.drop (o+ys.length)
def ER.need (p:Option Prop):ER->ER
 |.ok tv δ=>match p with|some p=>.ob p tv δ|none=>.ok tv δ
 |.ob q tv δ=>match p with|some p=>.ob (p/\q) tv δ|none=>.ob q tv δ
 |r=>r
def zno (X:Ctx) (h:zg) (t:Nat) (p:TV):ER:=
 match p with
 |.c p=>
  match zoZ h (X.ty t).size p with
  |some cs=>bif (X.ty t).ok&&Nat.beq cs.length (X.ty t).size then ER.need (ziB h p) (.ok (zjh (X.ty t).isAgg cs) []) else .bad
  |none=>.bad
 |_=>.bad
def zrX (X:Ctx) (h:zg) (t:Nat) (p v:TV):ER:=
 match p,v.cells with
 |.c (.ptr b i off),some vs=>
  bif (X.ty t).ok&&Nat.beq vs.length (X.ty t).size then
   match zh h b with
   |some (.vars cs)=>(match i with|0=>bif Nat.ble (off+vs.length) cs.length then .ok (.tup []) [(b,.vars (zK cs off vs))] else .bad|_+1=>.bad)
   |some (.data k l)=>
    match k.fit (zK ((k.enc (l.getD i default)).map .d) off vs) with
    |some x=>bif Nat.ble (off+vs.length) k.size then .ob (i<l.length) (.tup []) [(b,.data k (l.set i x))] else .bad
    |none=>match vs with
     |[.own b']=>bif Nat.ble (off+1) k.size then .ob (i<l.length) (.tup []) [(b,.hole k l i off b')] else .bad
     |_=>.bad
   |some (.hole k l i0 off0 _)=>
    match vs with
    |[.own b']=>
     match zh h b' with
     |some (.data k' l')=>
      match k.fit (zK ((k.enc (l.getD i default)).map .d) off [.d (.sl k' l')]) with
      |some x=>bif Nat.beq off off0&&!Nat.beq b b' then .ob (i=i0) (.tup []) [(b,.data k (l.set i x)),(b',.dead)] else .bad
      |none=>.bad
     |_=>.bad
    |_=>.bad
   |_=>.bad
  else .bad
 |_,_=>.bad
def zk:Nat:=68719476736
def zhN (place:Nat->Option (Nat×Nat)) (zero:List CV):List (Nat×TV)->Option (List CV)
 |[]=>some zero
 |(i,v)::r=>
  match place i,v.cells with
  |some (off,sz),some vs=>bif Nat.beq vs.length sz&&Nat.ble (off+sz) zero.length then zhN place (zK zero off vs) r else none
  |_,_=>none
def zba {α:Type}:List α->Nat->Option α
 |[],_=>none
 |x::_,0=>some x
 |_::r,n+1=>zba r n
def zs5 (X:Ctx) (t:Nat) (parts:List (Nat×TV)):ER:=
 let z:=(X.ty t).zero.map CV.d
 match (X.ty t).k with
 |.st fs=>bif !(X.ty t).ok || !(fs.all fun f=>(X.ty f.2).ok) then .bad else match zhN (fun i=>(zba fs i).map fun(o,u)=>(o,(X.ty u).size)) z parts with|some cs=>.ok (.agg cs) []|none=>.bad
 |.arr _ e=>bif !(X.ty t).ok || !(X.ty e).ok then .bad else match zhN (fun i=>some (i*(X.ty e).size,(X.ty e).size)) z parts with|some cs=>.ok (.agg cs) []|none=>.bad
 |_=>.bad
def ziy (k:EK):List (List CV)->Option (List k.T)
 |[]=>some []
 |c::r=>match k.fit c,ziy k r with|some x,some xs=>some (x::xs)|_,_=>none
def ziq (sz:Nat) (cs:List CV):Nat->List (List CV)
 |0=>[]
 |n+1=>cs.take sz::ziq sz (cs.drop sz) n
def zsf (z:List CV):Nat->List CV
 |0=>[]
 |n+1=>z++zsf z n
def zdN (X:Ctx) (base t len:Nat) (parts:List (Nat×TV)):ER:=
 match (X.ty t).k with
 |.slc e=>
  let E:=X.ty e
  match E.ek,zhN (fun i=>some (i*E.size,E.size)) (zsf (E.zero.map .d) len) parts with
  |some k,some cs=>bif !(Nat.ble (len*E.size) 16777216) || !(Nat.ble len zk) then .bad else match ziy k (ziq E.size cs len) with|some l=>.ok (.c (.own base)) [(base,.data k l)]|none=>.bad
  |_,_=>.bad
 |_=>.bad
def fzE (fz:Bool):ER->ER
 |.ok (.c (.own b)) [(c,.data k l)]=>bif fz then (bif Nat.beq b c then .ok (.c (.d (.sl k l))) [] else .bad) else .ok (.c (.own b)) [(c,.data k l)]
 |r=>r
def zqK:List CV->Option (List DV)
 |[]=>some []
 |.d x::r=>(zqK r).map (x::·)
 |_=>none
def zy3 (fb:Bool) (base:Nat) (cs:List CV):ER:=
 bif fb then (match zqK cs with|some xs=>.ok (.c (.d (.rp xs))) []|none=>.ok (.c (.ptr base 0 0)) [(base,.vars cs)]) else .ok (.c (.ptr base 0 0)) [(base,.vars cs)]
def zez (h:zg) (k:EK):CV->Option (List k.T)
 |.d (.lit (.slice none 0 0))=>some []
 |.d (.sl k' l)=>if e:k' = k then some (e▸l) else none
 |.own b=>match zh h b with|some (.data k' l)=>if e:k' = k then some (e▸l) else none|_=>none
 |.view b o n=>match zh h b with|some (.data k' l)=>if e:k' = k then some (((e▸l).drop o).take n) else none|_=>none
 |_=>none
def zy5 (X:Ctx) (h:zg) (t:Nat) (x:TV):ER:=
 match (X.ty t).k,x with
 |.arr n _,_=>.ok (.int n) []
 |.slc _,.c (.d (.lit (.slice none 0 0)))=>.ok (.int 0) []
 |.slc _,.c (.d (.sl _ l))=>.ok (.int l.length) []
 |.slc _,.c (.view b _ n)=>(match zh h b with|some (.data _ _)=>.ok (.int n) []|_=>.bad)
 |.slc _,.c (.own b)=>match zh h b with|some (.data _ l)=>.ok (.int l.length) []|_=>.bad
 |_,_=>.bad
def zo3 (X:Ctx) (h:zg) (base t:Nat) (x y:TV):ER:=
 match (X.ty t).k,x,y with
 |.slc e,.c x,.c y=>
  match (X.ty e).ek with
  |some k=>
   match zez h k y with
   |some ys=>
    match x with
    |.d (.lit (.slice none 0 0))=>.ob (ys.length<=zk) (.c (.own base)) [(base,.data k ys)]
    |.own b=>
     match zez h k (.own b) with
     |some xs=>.ob (xs.length+ys.length<=zk) (.c (.own base)) [(base,.data k (xs++ys)),(b,.dead)]
     |none=>.bad
    |.view b 0 n=>
     match zez h k (.own b) with
     |some xs=>.ob (n+ys.length<=zk) (.c (.own base)) [(base,.data k (xs.take n++ys)),(b,.dead)]
     |none=>.bad
    |_=>.bad
   |none=>.bad
  |none=>.bad
 |_,_,_=>.bad
def zmR (X:Ctx) (base t:Nat) (x y:TV):ER:=
 match (X.ty t).k,x,y with
 |.slc e,.c (.d (.lit (.slice none 0 0))),.c (.d (.lit (.int .i64 n)))=>
  match (X.ty e).ek with
  |some k=>
   match k.fit ((X.ty e).zero.map .d) with
   |some z=>.ob (0<=n/\n<=zk) (.c (.own base)) [(base,.data k (List.replicate n.toNat z))]
   |none=>.bad
  |none=>.bad
 |_,_,_=>.bad
def zy8 (X:Ctx) (t:Nat) (x:TV):ER:=
 match (X.ty t).k,x with
 |.slc _,.c (.d (.lit (.slice none 0 0)))=>.ok (.int 0) []
 |_,_=>.bad
def zw0 (X:Ctx) (h:zg) (t:Nat) (x y:TV):ER:=
 match (X.ty t).k,x,y with
 |.slc e,.c x,.c y=>
  match (X.ty e).ek with
  |some k=>
   match zez h k y with
   |some ys=>
    match x with
    |.own b=>
     match zez h k (.own b) with
     |some xs=>.ok (.int (min ys.length xs.length:Nat)) [(b,.data k (zK xs 0 (ys.take xs.length)))]
     |none=>.bad
    |.view b o n=>
     match zez h k (.own b) with
     |some xs=>.ok (.int (min ys.length n:Nat)) [(b,.data k (zK xs o (ys.take n)))]
     |none=>.bad
    |_=>.bad
   |none=>.bad
  |none=>.bad
 |_,_,_=>.bad
def zsK (X:Ctx) (h:zg) (t:Nat) (x:TV):ER:=
 match (X.ty t).k,x with
 |.slc e,.c x=>
  match (X.ty e).ek with
  |some k=>
   match k.fit ((X.ty e).zero.map .d) with
   |some z=>
    match x with
    |.own b=>
     match zez h k (.own b) with
     |some xs=>.ok (.tup []) [(b,.data k (List.replicate xs.length z))]
     |none=>.bad
    |.view b o n=>
     match zez h k (.own b) with
     |some xs=>.ok (.tup []) [(b,.data k (zK xs o (List.replicate n z)))]
     |none=>.bad
    |_=>.bad
   |none=>.bad
  |none=>.bad
 |_,_=>.bad
def zvD (X:Ctx) (base t:Nat) (l c:TV):ER:=
 match (X.ty t).k,l,c with
 |.slc e,.c (.d (.lit (.int .i64 l))),.c (.d (.lit (.int .i64 c)))=>
  match (X.ty e).ek with
  |some k=>
   match k.fit ((X.ty e).zero.map .d) with
   |some z=>.ob (0<=l/\l<=c/\c<=zk) (.c (.own base)) [(base,.data k (List.replicate l.toNat z))]
   |none=>.bad
  |none=>.bad
 |_,_,_=>.bad
def ziz (X:Ctx) (h:zg) (t:Nat) (x i:TV):ER:=
 match (X.ty t).k,x,i with
 |.arr n e,.c (.ptr b j off),.c (.d (.lit (.int _ i)))=>bif zky h b&&(X.ty e).ok then .ob (0<=i/\i<n) (.c (.ptr b j (off+i.toNat*(X.ty e).size))) [] else .bad
 |.arr n e,.c (.d (.rp xs)),.c (.d (.lit (.int _ i)))=>bif (X.ty e).ok then .ob (0<=i/\i<n) (.c (.d (.rp (xs.drop (i.toNat*(X.ty e).size))))) [] else .bad
 |.slc e,.c (.d (.sl k l)),.c (.d (.lit (.int _ i)))=>bif (X.ty e).ok&&Nat.beq k.size (X.ty e).size then .ob (0<=i/\i<l.length) (.c (.d (.rp (k.enc (l.getD i.toNat default))))) [] else .bad
 |.slc e,.c (.own b),.c (.d (.lit (.int _ i)))=>
  match zh h b with
  |some (.data k l)=>bif (X.ty e).ok&&Nat.beq k.size (X.ty e).size then .ob (0<=i/\i<l.length) (.c (.ptr b i.toNat 0)) [] else .bad
  |some (.hole k l _ _ _)=>bif (X.ty e).ok&&Nat.beq k.size (X.ty e).size then .ob (0<=i/\i<l.length) (.c (.ptr b i.toNat 0)) [] else .bad
  |_=>.bad
 |.slc e,.c (.view b o n),.c (.d (.lit (.int _ i)))=>
  match zh h b with
  |some (.data k _)=>bif (X.ty e).ok&&Nat.beq k.size (X.ty e).size then .ob (0<=i/\i<n) (.c (.ptr b (o+i.toNat) 0)) [] else .bad
  |_=>.bad
 |_,_,_=>.bad
def zh6 (X:Ctx) (h:zg) (t:Nat) (x:TV) (f:Nat):ER:=
 match (X.ty t).k,x with
 |.st fs,.c (.ptr b i off)=>match zba fs f with|some (o,u)=>(match (X.ty u).size with|0=>.bad|_+1=>bif zky h b then .ok (.c (.ptr b i (off+o))) [] else .bad)|none=>.bad
 |.st fs,.c (.d (.rp xs))=>match zba fs f with|some (o,u)=>(match (X.ty u).size with|0=>.bad|_+1=>.ok (.c (.d (.rp (xs.drop o)))) [])|none=>.bad
 |_,_=>.bad
def zsP (X:Ctx) (t:Nat) (x:TV) (f:Nat):ER:=
 match (X.ty t).k,x with
 |.st fs,.agg cs=>match zba fs f with|some (o,u)=>(bif (X.ty u).ok&&Nat.ble (o+(X.ty u).size) cs.length then .ok (zjh (X.ty u).isAgg ((cs.drop o).take (X.ty u).size)) [] else .bad)|none=>.bad
 |_,_=>.bad
def zr6 (X:Ctx) (t:Nat) (x i:TV):ER:=
 match (X.ty t).k,x,i with
 |.arr n e,.agg cs,.c (.d (.lit (.int _ i)))=>bif (X.ty e).ok&&Nat.beq cs.length (n*(X.ty e).size) then .ob (0<=i/\i<n) (zjh (X.ty e).isAgg ((cs.drop (i.toNat*(X.ty e).size)).take (X.ty e).size)) [] else .bad
 |_,_,_=>.bad
def zfc:List (Int×CV)->Int->CV->List (Int×CV)
 |[],n,x=>[(n,x)]
 |(k,y)::r,n,x=>bif n==k then (k,x)::r else (k,y)::zfc r n x
def zkK:List (Int×CV)->Int->Option CV
 |[],_=>none
 |(k,y)::r,n=>bif n==k then some y else zkK r n
def zrz (l:List (Int×CV)) (n:Int):Bool:=match zkK l n with|some (.d (.lit (.bool b)))=>b|_=>false
def zc9:List (Int×Bool)->Int->Bool
 |[],_=>false
 |(k,y)::r,n=>bif n==k then y else zc9 r n
def zk2 (X:Ctx) (h:zg) (t:Nat) (m k v:TV):ER:=
 match (X.ty t).k,m,k,v with
 |.mp kt _,.c (.own b),.c (.d (.lit (.int .i64 n))),.c x=>
  match zh h b,(X.ty kt).k with
  |some (.map l),.int .i64=>.ok (.tup []) [(b,.map (zfc l n x))]
  |_,_=>.bad
 |_,_,_,_=>.bad
def zpg (X:Ctx) (h:zg) (t:Nat) (m k:TV) (is:Bool):ER:=
 match (X.ty t).k,m,k,is with
 |.mp kt e,.c (.d (.mp l)),.c (.d (.lit (.int .i64 n))),false=>
  match (X.ty kt).k,(X.ty e).k,(X.ty e).zero with
  |.int .i64,.bool,[.lit (.bool false)]=>.ok (.bo (zc9 l n)) []
  |_,_,_=>.bad
 |.mp kt e,.c (.own b),.c (.d (.lit (.int .i64 n))),false=>
  match zh h b,(X.ty kt).k,(X.ty e).k,(X.ty e).zero with
  |some (.map l),.int .i64,.bool,[.lit (.bool false)]=>.ob (∀p∈l,∃b,p.2 = .d (DV.bo b)) (.bo (zrz l n)) []
  |_,_,_,_=>.bad
 |.mp kt e,.c (.own b),.c (.d (.lit (.int .i64 n))),true=>
  match zh h b,(X.ty kt).k,(X.ty e).ok with
  |some (.map l),.int .i64,true=>match zkK l n with|some x=>.ok (.tup [.c x,.bo true]) []|none=>.ok (.tup [.any,.bo false]) []
  |_,_,_=>.bad
 |_,_,_,_=>.bad
def zrx:Option TV->Option (Option Int)
 |none=>some none
 |some (.c (.d (.lit (.int _ i))))=>some (some i)
 |_=>none
def cut {α:Type} (l:List α) (lo hi:Option Int):List α:=
 match lo,hi with
 |none,none=>l
 |some a,none=>l.drop a.toNat
 |none,some b=>l.take b.toNat
 |some a,some b=>(l.take b.toNat).drop a.toNat
def zkB (n:Nat) (lo hi mx:Option Int):Option Prop:=
 match lo,hi,mx with
 |none,none,none=>none
 |some a,none,none=>some (0<=a/\a<=n)
 |none,some b,none=>some (0<=b/\b<=n)
 |some a,some b,none=>some (0<=a/\a<=b/\b<=n)
 |none,some b,some c=>some (0<=b/\b<=c/\c<=n)
 |some a,some b,some c=>some (0<=a/\a<=b/\b<=c/\c<=n)
 |_,none,some _=>some False
def zte (X:Ctx) (h:zg) (base t:Nat) (x:TV) (lo hi mx:Option TV):ER:=
 match (X.ty t).k,x,zrx lo,zrx mx,zrx hi with
 |.slc e,.c (.d (.sl k _)),some none,some (some 0),some (some 0)=>bif (X.ty e).ok then .ok (.c (.own base)) [(base,.data k [])] else .bad
 |.slc e,.c (.d (.sl k l)),some lo,some mx,some hi=>bif (X.ty e).ok&&Nat.beq k.size (X.ty e).size then ER.need (zkB l.length lo hi mx) (.ok (.c (.d (.sl k (cut l lo hi)))) []) else .bad
 |.slc e,.c (.own b),some lo,some mx,some hi=>
  match zh h b with
  |some (.data k l)=>bif (X.ty e).ok&&Nat.beq k.size (X.ty e).size then ER.need (zkB l.length lo hi mx) (.ok (.c (.view b (lo.getD 0).toNat ((hi.getD l.length)-lo.getD 0).toNat)) []) else .bad
  |_=>.bad
 |.slc e,.c (.view b o n),some lo,some mx,some hi=>
  match zh h b with
  |some (.data k _)=>bif (X.ty e).ok&&Nat.beq k.size (X.ty e).size then ER.need (zkB n lo hi mx) (.ok (.c (.view b (o+(lo.getD 0).toNat) ((hi.getD n)-lo.getD 0).toNat)) []) else .bad
  |_=>.bad
 |.slc e,.c (.d (.lit (.slice none 0 0))),some lo,some mx,some hi=>bif !(X.ty e).ok then .bad else ER.need (zkB 0 lo hi mx) (.ok (.c (.d (.lit (.slice none 0 0)))) [])
 |.arr n e,.c (.d (.rp xs)),some none,some none,some none=>
  match (X.ty e).ek with
  |some k=>bif Nat.ble n zk&&Nat.beq xs.length (n*(X.ty e).size) then match ziy k (ziq (X.ty e).size (xs.map .d) n) with|some l=>.ok (.c (.d (.sl k l))) []|none=>.bad else .bad
  |none=>.bad
 |.arr n e,.c (.ptr b 0 0),some none,some none,some none=>
  match (X.ty e).ek,zh h b with
  |some k,some (.vars cs)=>bif Nat.ble n zk&&Nat.beq cs.length (n*(X.ty e).size) then match ziy k (ziq (X.ty e).size cs n) with|some l=>.ok (.c (.own base)) [(base,.data k l),(b,.dead)]|none=>.bad else .bad
  |_,_=>.bad
 |_,_,_,_,_=>.bad
def zwt (X:Ctx) (s t:Nat) (x:TV):ER:=
 match (X.ty s).k,(X.ty t).k,x with
 |.int _,.int k,.c (.d (.lit (.int _ n)))=>.ok (.lit (.int k (k.wrap n))) []
 |_,_,_=>.bad
def zxU (b:Builtin):List TV->Option (IntKind×Int)
 |[.c (.d (.lit (.int k x)))]=>some (k,x)
 |.c (.d (.lit (.int k x)))::.c (.d (.lit (.int k' y)))::[]=>bif decide (k=k') then some (k,match b with|.max=>if y>x then y else x|_=>if y<x then y else x) else none
 |_=>none
def cvs:List TV->Option (List CV)
 |[]=>some []
 |.c x::r=>(cvs r).map (x::·)
 |_=>none
def zo2 (X:Ctx) (lk:Nat->TV) (h:zg) (base:Nat) (o:Go.Op):ER:=
 let ρ:=X.opd lk
 match o with
 |.move x|.assign x=>.ok (ρ x) []
 |.alloc t=>bif (X.ty t).ok then .ok (.c (.ptr base 0 0)) [(base,.vars ((X.ty t).zero.map .d))] else .bad
 |.box _ x=>match (ρ x).cells with|some cs=>zy3 X.fb base cs|none=>.bad
 |.build t ps=>zs5 X t (ps.toList.map fun(i,x)=>(i,ρ x))
 |.buildSlice t n ps=>fzE X.fz (zdN X base t n (ps.toList.map fun(i,x)=>(i,ρ x)))
 |.load t a=>zno X h t (ρ a)
 |.store t a v=>zrX X h t (ρ a) (ρ v)
 |.nilCheck x=>match ρ x with|.c (.ptr b i o)=>(bif zky h b then .ok (.c (.ptr b i o)) [] else .bad)|.c (.d (.rp xs))=>.ok (.c (.d (.rp xs))) []|.c (.d (.fn f a b))=>.ok (.c (.d (.fn f a b))) []|.c (.cl f a b)=>.ok (.c (.cl f a b)) []|_=>.bad
 |.binOp op t x y _=>zyz h (X.ty t) op (ρ x) (ρ y)
 |.unOp op _ x=>match op,ρ x with
  |.not,.c (.d (.lit (.bool b)))=>.ok (.bo !b) []
  |.neg,.c (.d (.lit (.int k n)))=>.ok (.lit (.int k (k.wrap (0-n)))) []
  |_,_=>.bad
 |.convert s t x=>zwt X s t (ρ x)
 |.makeFunc (.func f) first caps=>match cvs (first.toList.map ρ),cvs (caps.toList.map ρ) with|some a,some b=>.ok (.c (.cl f a b)) []|_,_=>.bad
 |.makeSlice t l c=>zvD X base t (ρ l) (ρ c)
 |.slice t x lo hi mx=>zte X h base t (ρ x) (lo.map ρ) (hi.map ρ) (mx.map ρ)
 |.fieldAddr t x f=>zh6 X h t (ρ x) f
 |.field t x f=>zsP X t (ρ x) f
 |.indexAddr t x i=>ziz X h t (ρ x) (ρ i)
 |.index t x i=>zr6 X t (ρ x) (ρ i)
 |.makeMap t none=>(match (X.ty t).k with|.mp _ _=>.ok (.c (.own base)) [(base,.map [])]|_=>.bad)
 |.mapUpdate t m k v=>zk2 X h t (ρ m) (ρ k) (ρ v)
 |.insert t m k v=>zk2 X h t (ρ m) (ρ k) (ρ v)
 |.lookup t m k is=>zpg X h t (ρ m) (ρ k) is
 |.extract x i=>match ρ x with|.tup vs=>(match zba vs i with|some v=>.ok v []|none=>.bad)|_=>.bad
 |.call c=>
  match c.callee with
  |.value f=>
   match ρ f with
   |.c (.d (.fn f first caps))=>.call f (first.map (fun x=>.c (.d x))++c.args.toList.map ρ) (caps.map (fun x=>.c (.d x)))
   |.c (.cl f first caps)=>.call f (first.map .c++c.args.toList.map ρ++caps.map .c) []
   |.c (.d (.lit (.func (.yield l) a b)))=>bif Nat.beq a.size 0&&Nat.beq b.size 0 then .yld l (c.args.toList.map ρ) else .bad
   |_=>.bad
  |.builtin b=>
   match b,c.argTypes.toList,c.args.toList.map ρ with
   |.len,[t],[x]=>zy5 X h t x
   |.append,[t,u],[x,y]=>(match (X.ty u).k with|.slc _=>zo3 X h base t x y|.int .i64=>zmR X base t x y|_=>.bad)
   |.copy,[t,u],[x,y]=>(match (X.ty u).k with|.slc _=>zw0 X h t x y|_=>.bad)
   |.clear,[t],[x]=>zsK X h t x
   |.cap,[t],[x]=>zy8 X t x
   |.max,_,l=>match zxU .max l with|some (k,n)=>.ok (.lit (.int k n)) []|none=>.bad
   |.min,_,l=>match zxU .min l with|some (k,n)=>.ok (.lit (.int k n)) []|none=>.bad
   |_,_,_=>.bad
  |_=>.bad
 |_=>.bad
end Go.Abs
