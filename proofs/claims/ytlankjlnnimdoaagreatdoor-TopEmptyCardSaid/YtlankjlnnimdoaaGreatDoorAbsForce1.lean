/- Walks: equality of structs; the same walk with all values written out. -/
import Derived.KernelRfl
import Derived.Test.YtlankjlnnimdoaaGreatDoorAbsCode1
import Derived.Laws.StructEq
set_option linter.all false
namespace Go.Abs
inductive VEq:List DV->List Value->List Value->Bool->Prop
 |nil:VEq [] [] [] true
 |int (k kz:IntKind) (n a b:Int) (z:List DV) (r s:List Value) (e:Bool) (h:VEq z r s e):VEq (.lit (.int kz n)::z) (.int k a::r) (.int k b::s) ((a==b)&&e)
 |bool (n a b:Bool) (z:List DV) (r s:List Value) (e:Bool) (h:VEq z r s e):VEq (.lit (.bool n)::z) (.bool a::r) (.bool b::s) ((a==b)&&e)
theorem zzd {N:zm} {S:Nat->Prop} {w:World}:∀ {z:List DV} {xs ys:List CV} {vs us:List Value} {b:Bool},zdY xs ys=some b->ziK z xs=true->RepCL N S w xs vs->RepCL N S w ys us->VEq z vs us b:=by
 intro z xs
 induction xs generalizing z with
 |nil=>
  intro ys vs us b he hz hx hy
  cases z with
  |cons _ _=>simp[ziK]at hz
  |nil=>
   cases ys with
   |cons _ _=>simp[zdY]at he
   |nil=>
    simp only[zdY,Option.some.injEq]at he
    rw[zaF hx,zaF hy,←he]
    exact .nil
 |cons x xs ih=>
  intro ys vs us b he hz hx hy
  unfold ziK at hz
  split at hz
  ·rename_i heq;cases heq
  ·rename_i kz n z' k a r heq
   cases heq
   unfold zdY at he
   split at he
   ·rename_i heq;cases heq
   ·rename_i k1 a1 r1 k2 b2 s2 heq
    cases heq
    cases hk:decide (k=k2) with
    |false=>rw[hk]at he;cases he
    |true=>
     rw[hk]at he
     have:=of_decide_eq_true hk
     subst this
     simp only[cond_true,Option.map_eq_some_iff]at he
     obtain⟨e,he,rfl⟩:=he
     obtain⟨v,vs,rfl,hv,hvs⟩:=zr hx
     obtain⟨u,us,rfl,hu,hus⟩:=zr hy
     have h1:=(za9 hv).1
     have h2:=(za9 hu).1
     subst h1 h2
     exact .int _ _ _ _ _ _ _ _ _ (ih he hz hvs hus)
   ·rename_i heq;cases heq
   ·cases he
  ·rename_i n z' a r heq
   cases heq
   unfold zdY at he
   split at he
   ·rename_i heq;cases heq
   ·rename_i heq;cases heq
   ·rename_i a1 r1 b2 s2 heq
    cases heq
    simp only[Option.map_eq_some_iff]at he
    obtain⟨e,he,rfl⟩:=he
    obtain⟨v,vs,rfl,hv,hvs⟩:=zr hx
    obtain⟨u,us,rfl,hu,hus⟩:=zr hy
    have h1:=(za9 hv).1
    have h2:=(za9 hu).1
    subst h1 h2
    exact .bool _ _ _ _ _ _ _ (ih he hz hvs hus)
   ·cases he
  ·cases hz
theorem VEq.split:∀ {z1 z2:List DV} {r s:List Value} {e:Bool},VEq (z1++z2) r s e->∃r1 r2 s1 s2 e1 e2,r=r1++r2/\s=s1++s2/\e=(e1&&e2)/\VEq z1 r1 s1 e1/\VEq z2 r2 s2 e2
 |[],z2,r,s,e,h=>⟨[],r,[],s,true,e,rfl,rfl,rfl,.nil,h⟩
 |_::z1,z2,_,_,_,.int k kz n a b _ r s e h=>by
  obtain⟨r1,r2,s1,s2,e1,e2,rfl,rfl,rfl,h1,h2⟩:=VEq.split h
  exact⟨_,r2,_,s2,_,e2,rfl,rfl,by rw[Bool.and_assoc],.int k kz n a b _ _ _ _ h1,h2⟩
 |_::z1,z2,_,_,_,.bool n a b _ r s e h=>by
  obtain⟨r1,r2,s1,s2,e1,e2,rfl,rfl,rfl,h1,h2⟩:=VEq.split h
  exact⟨_,r2,_,s2,_,e2,rfl,rfl,by rw[Bool.and_assoc],.bool n a b _ _ _ _ h1,h2⟩
theorem VEq.len {z:List DV} {r s:List Value} {e:Bool} (h:VEq z r s e):r.length=z.length/\s.length=z.length:=by
 induction h with
 |nil=>exact⟨rfl,rfl⟩
 |int _ _ _ _ _ _ _ _ _ _ ih=>simp[ih]
 |bool _ _ _ _ _ _ _ _ ih=>simp[ih]
def zwh (P:Program) (g:Nat->List DV->Bool):List Field->Nat->List DV->Bool
 |[],_,z=>z.isEmpty
 |f::r,off,z=>match P.info? f.type with
  |some j=>!(f.name=="_")&&Nat.beq f.offset off&&Nat.ble j.size z.length&&g f.type (z.take j.size)&&zwh P g r (off+j.size) (z.drop j.size)
  |none=>false
def zwK (g:List DV->Bool) (n:Nat):Nat->List DV->Bool
 |0,z=>z.isEmpty
 |k+1,z=>Nat.ble n z.length&&g (z.take n)&&zwK g n k (z.drop n)
def eqT (P:Program):Nat->Nat->List DV->Bool
 |0,_,_=>false
 |d+1,t,z=>match P.underlying t with
  |some .bool=>(match z with | [.lit (.bool _)]=>true|_=>false)
  |some (.int _)=>(match z with | [.lit (.int _ _)]=>true|_=>false)
  |some (.struct fs)=>!P.stoodInHeld t&&zwh P (eqT P d) fs.toList 0 z
  |some (.array len e)=>(match P.info? e with|some j=>zwK (eqT P d e) j.size len z|none=>false)
  |_=>false
def zbG (P:Program) (t:Nat):Bool:=match P.underlying t with|some (.struct _)=>true|some (.array _ _)=>true|_=>false
def mkv (agg:Bool) (r:List Value):Value:=if agg then .agg r.toArray else r.headD undef
section
variable {P:Program} {w:World}
theorem zxy {d t:Nat} {z:List DV} (h:eqT P d t z=true):∃u,P.underlying t=some u/\(isAgg t).run P w = .ok (zbG P t) w/\(zbG P t=false->z.length=1):=by
 cases d with
 |zero=>cases h
 |succ d=>
  simp only[eqT]at h
  split at h
  ·rename_i hu
   refine⟨_,hu,by simp[isAgg,zbG,run_underlying hu,hu],fun _=>?_⟩
   split at h
   ·rfl
   ·cases h
  ·rename_i k hu
   refine⟨_,hu,by simp[isAgg,zbG,run_underlying hu,hu],fun _=>?_⟩
   split at h
   ·rfl
   ·cases h
  ·rename_i fs hu
   exact⟨_,hu,by simp[isAgg,zbG,run_underlying hu,hu],fun ha=>by simp[zbG,hu]at ha⟩
  ·rename_i n e hu
   exact⟨_,hu,by simp[isAgg,zbG,run_underlying hu,hu],fun ha=>by simp[zbG,hu]at ha⟩
  ·cases h
theorem zk3 {d t:Nat} {z:List DV} (h:eqT P d t z=true) {j:TypeInfo} (hj:P.info? t=some j) {pre r post:List Value} {xs:Array Value} (hx:xs.toList=pre++r++post) (hr:r.length=j.size) (hz:r.length=z.length) :
  (part t xs pre.length).run P w = .ok (mkv (zbG P t) r) w:=by
 obtain⟨u,hu,ha,h1⟩:=zxy (w:=w) h
 have hxs:xs=(pre++r++post).toArray:=by rw[←hx]
 cases hag:zbG P t with
 |true=>
  rw[hag]at ha
  simp only[part,Sem.run_bind,ha,Result.andThen_ok,if_true,sizeOf,typeInfo,run_program,hj,Sem.run_pure,mkv]
  congr 2
  rw[hxs,←hr]
  simp
 |false=>
  rw[hag]at ha
  have hl:=h1 hag
  rw[←hz]at hl
  match r,hl with
  |[v],_=>
   have hg:xs[pre.length]? = some v:=by rw[hxs];simp
   simp[part,ha,hg,mkv]
theorem zp9 (g:Nat->List DV->Bool) (d:Nat) (xs ys:Array Value)
  (hg:∀t z,g t z=true->∃d',eqT P d' t z=true) (hrun:∀t z r s e,g t z=true->VEq z r s e->(Op.equalIn d t (mkv (zbG P t) r) (mkv (zbG P t) s)).run P w = .ok e w) :
  ∀(fs:List Field) (off:Nat) (z:List DV) (pr ps r s:List Value) (e:Bool),zwh P g fs off z=true->VEq z r s e->pr.length=off->ps.length=off->xs.toList=pr++r->ys.toList=ps++s ->
   (Op.eqFields d xs ys fs).run P w = .ok e w
 |[],off,z,pr,ps,r,s,e,h,he,_,_,_,_=>by
  simp only[zwh,List.isEmpty_iff]at h
  subst h
  cases he
  simp[Op.eqFields]
 |f::fs,off,z,pr,ps,r,s,e,h,he,h1,h2,hx,hy=>by
  simp only[zwh]at h
  split at h
  ·rename_i j hj
   simp only[Bool.and_eq_true,Bool.not_eq_true']at h
   obtain⟨⟨⟨⟨hn,ho⟩,hle⟩,hgz⟩,hrest⟩:=h
   have ho:=Nat.eq_of_beq_eq_true ho
   have hle:=Nat.le_of_ble_eq_true hle
   rw[←List.take_append_drop j.size z]at he
   obtain⟨r1,r2,s1,s2,e1,e2,rfl,rfl,rfl,g1,g2⟩:=he.split
   have hl1:=g1.len
   have htk:(z.take j.size).length=j.size:=by simp[hle]
   obtain⟨d',hd'⟩:=hg _ _ hgz
   have ha:=zk3 (w:=w) hd' hj (pre:=pr) (r:=r1) (post:=r2) (xs:=xs) (by rw[hx,List.append_assoc]) (by omega) hl1.1
   have hb:=zk3 (w:=w) hd' hj (pre:=ps) (r:=s1) (post:=s2) (xs:=ys) (by rw[hy,List.append_assoc]) (by omega) hl1.2
   have hn' : f.name≠"_":=by simpa using hn
   rw[h1,←ho]at ha
   rw[h2,←ho]at hb
   have hrec:=zp9 g d xs ys hg hrun fs (off+j.size) (z.drop j.size) (pr++r1) (ps++s1) r2 s2 e2 hrest g2 (by simp;omega) (by simp;omega) (by rw[hx,List.append_assoc]) (by rw[hy,List.append_assoc])
   rw[Op.eqFields]
   simp only[if_pos hn',Sem.run_bind,ha,hb,hrun _ _ _ _ _ hgz g1,Result.andThen_ok]
   cases e1
   ·simp
   ·simpa using hrec
  ·cases h
theorem zpU (elem n d:Nat) (xs ys:Array Value) (g:List DV->Bool) {j:TypeInfo} (hj:P.info? elem=some j) (hn:j.size=n)
  (hg:∀z,g z=true->∃d',eqT P d' elem z=true) (hrun:∀z r s e,g z=true->VEq z r s e->(Op.equalIn d elem (mkv (zbG P elem) r) (mkv (zbG P elem) s)).run P w = .ok e w) :
  ∀(len i:Nat) (z:List DV) (pr ps r s:List Value) (e:Bool),zwK g n len z=true->VEq z r s e->pr.length=i*n->ps.length=i*n->xs.toList=pr++r->ys.toList=ps++s ->
   (forIn (m:=Sem) (List.range' i len) ((none,()):Option Bool×Unit) (fun i (_:Option Bool×Unit)=>do
    let a ←part elem xs (i*n)
    let b ←part elem ys (i*n)
    let c ←Op.equalIn d elem a b
    if (!c)=true then pure (.done (some false,())) else pure (.yield (none,())))).run P w = .ok (if e then (none,()) else (some false,())) w
 |0,i,z,pr,ps,r,s,e,h,he,_,_,_,_=>by
  simp only[zwK,List.isEmpty_iff]at h
  subst h
  cases he
  simp
 |len+1,i,z,pr,ps,r,s,e,h,he,h1,h2,hx,hy=>by
  simp only[zwK,Bool.and_eq_true]at h
  obtain⟨⟨hle,hgz⟩,hrest⟩:=h
  have hle:=Nat.le_of_ble_eq_true hle
  rw[←List.take_append_drop n z]at he
  obtain⟨r1,r2,s1,s2,e1,e2,rfl,rfl,rfl,g1,g2⟩:=he.split
  have hl1:=g1.len
  have htk:(z.take n).length=n:=by simp[hle]
  obtain⟨d',hd'⟩:=hg _ hgz
  have ha:=zk3 (w:=w) hd' hj (pre:=pr) (r:=r1) (post:=r2) (xs:=xs) (by rw[hx,List.append_assoc]) (by omega) hl1.1
  have hb:=zk3 (w:=w) hd' hj (pre:=ps) (r:=s1) (post:=s2) (xs:=ys) (by rw[hy,List.append_assoc]) (by omega) hl1.2
  rw[h1]at ha
  rw[h2]at hb
  have e3:(i+1)*n=i*n+n:=Nat.succ_mul i n
  have hrec:=zpU elem n d xs ys g hj hn hg hrun len (i+1) (z.drop n) (pr++r1) (ps++s1) r2 s2 e2 hrest g2 (by simp;omega) (by simp;omega) (by rw[hx,List.append_assoc]) (by rw[hy,List.append_assoc])
  rw[List.range'_succ,List.forIn_cons]
  simp only[Sem.run_bind,ha,hb,hrun _ _ _ _ hgz g1,Result.andThen_ok]
  cases e1
  ·simp
  ·simp only[Bool.not_true,Bool.false_eq_true,if_false,Sem.run_pure,Result.andThen_ok,Bool.true_and]
   exact hrec
theorem zoO:∀(d t:Nat) (z:List DV),eqT P d t z=true->∀(k:Nat) (r s:List Value) (e:Bool),VEq z r s e->(Op.equalIn (d+k) t (mkv (zbG P t) r) (mkv (zbG P t) s)).run P w = .ok e w
 |0,t,z,h=>by cases h
 |d+1,t,z,h=>by
  intro k r s e he
  have e0:d+1+k=(d+k)+1:=by omega
  rw[e0]
  simp only[eqT]at h
  split at h
  ·rename_i hu
   split at h
   ·rename_i b
    cases he with|bool _ a b _ _ _ e h=>
    cases h
    have ha:zbG P t=false:=by simp[zbG,hu]
    simp[mkv,ha,Op.equalIn,run_underlying hu]
   ·cases h
  ·rename_i kk hu
   split at h
   ·rename_i k0 n0
    cases he with|int k1 _ _ a b _ _ _ e h=>
    cases h
    have ha:zbG P t=false:=by simp[zbG,hu]
    simp[mkv,ha,Op.equalIn,run_underlying hu]
   ·cases h
  ·rename_i fs hu
   simp only[Bool.and_eq_true,Bool.not_eq_true']at h
   have ha:zbG P t=true:=by simp[zbG,hu]
   have hf:P.fieldsOf t=fs:=by simp[Program.fieldsOf,hu]
   simp only[mkv,ha,if_true]
   rw[run_equalIn_struct (P:=P) w (d+k) t _ _ (by rw[hf];exact hu) h.1,hf]
   exact zp9 (eqT P d) (d+k) _ _ (fun t z h=>⟨d,h⟩) (fun t z r s e h he=>zoO d t z h k r s e he) fs.toList 0 z [] [] r s e h.2 he rfl rfl rfl rfl
  ·rename_i len elem hu
   split at h
   ·rename_i j hj
    have ha:zbG P t=true:=by simp[zbG,hu]
    simp only[mkv,ha,if_true]
    have key:=zpU (w:=w) elem j.size (d+k) r.toArray s.toArray (eqT P d elem) hj rfl (fun z h=>⟨d,h⟩) (fun z r s e h he=>zoO d elem z h k r s e he) len 0 z [] [] r s e h he (by simp) (by simp) rfl rfl
    simp only[Op.equalIn,Sem.run_bind,run_underlying hu,Result.andThen_ok,sizeOf,typeInfo,run_program,hj,Sem.run_pure]
    rw[Std.Legacy.Range.forIn_eq_forIn_range']
    simp only[Std.Legacy.Range.size,Nat.sub_zero,Nat.add_one_sub_one,Nat.div_one]
    erw [key]
    cases e<;>simp
   ·cases h
  ·cases h
end
def zyD (P:Program) (p:Nat×TI):Bool:=bif p.2.eqf then eqT P 8 p.1 p.2.zero&&!(P.eqGuardType P.depth p.1)&&zbG P p.1 else true
theorem zos:∀(l:List (Nat×TI)) (d:TI) (t:Nat),look d l t=d\/(t,look d l t)∈l
 |[],_,_=>.inl rfl
 |(i,x)::r,d,t=>by
  simp only[look]
  cases hb:Nat.beq i t with
  |true=>rw[Nat.eq_of_beq_eq_true hb];exact .inr List.mem_cons_self
  |false=>exact(zos r d t).imp id (List.mem_cons_of_mem _)
theorem zzh {X:Ctx} (hm:X.P.follows .mixedOrders=true) (h:X.tt.all (fun p=>zja X.P p&&zyD X.P p)=true):XOk X:=by
 have key:∀t,(X.ty t).ok=true->(t,X.ty t)∈X.tt:=fun t ht=>by
  rcases zos X.tt ⟨.other,0,0,[],none,false,false⟩ t with e|e
  ·rw[show X.ty t=_ from e]at ht;cases ht
  ·exact e
 refine⟨fun t ht=>?_,hm,fun t ht=>?_⟩
 ·have hm:=List.all_eq_true.1 h _ (key t ht)
  simp only[Bool.and_eq_true]at hm
  obtain⟨h1,h2,h3⟩:=ztp hm.1
  refine⟨h1,h2,h3,fun he w xs ys vs us b N S hb hx hy hz=>?_⟩
  have hq:=hm.2
  simp only[zyD,he,cond_true,Bool.and_eq_true,Bool.not_eq_true']at hq
  have hv:=zzd hb hz hx hy
  have hr:=zoO (P:=X.P) (w:=w) 8 t (X.ty t).zero hq.1.1 9992 vs.toList us.toList b hv
  rw[hq.2]at hr
  simp only[mkv,if_true,Array.toArray_toList]at hr
  exact⟨hr,hq.1.2⟩
 ·rcases zos X.tt ⟨.other,0,0,[],none,false,false⟩ t with e|e
  ·rw[show X.ty t=_ from e];exact⟨rfl,rfl,rfl⟩
  ·have hm:=List.all_eq_true.1 h _ e
   simp only[Bool.and_eq_true]at hm
   have ht' : (look ⟨.other,0,0,[],none,false,false⟩ X.tt t).ok=false:=ht
   have:=hm.1
   unfold zja at this
   split at this
   ·simp[ht']at this
   ·cases this
def fV (v:Value) (k:Value->Prop):Prop:=
 match v with
 |.int a n=>k (.int a n)
 |.bool b=>k (.bool b)
 |.slice a n c=>k (.slice a n c)
 |v=>k v
def fD0 (x:DV) (k:DV->Prop):Prop:=
 match x with
 |.lit v=>fV v fun v=>k (.lit v)
 |.sl e l=>k (.sl e l)
 |.rp xs=>k (.rp xs)
 |.fn f a b=>k (.fn f a b)
 |.mp l=>k (.mp l)
def fDL:List DV->(List DV->Prop)->Prop
 |[],k=>k []
 |x::r,k=>fD0 x fun x=>fDL r fun r=>k (x::r)
def fD (x:DV) (k:DV->Prop):Prop:=
 match x with
 |.lit v=>fV v fun v=>k (.lit v)
 |.sl e l=>k (.sl e l)
 |.rp xs=>fDL xs fun xs=>k (.rp xs)
 |.fn f a b=>k (.fn f a b)
 |.mp l=>k (.mp l)
def fC (x:CV) (k:CV->Prop):Prop:=
 match x with
 |.d x=>fD x fun x=>k (.d x)
 |.ptr b i o=>k (.ptr b i o)
 |.own b=>k (.own b)
 |.view b o n=>k (.view b o n)
 |.cl f a b=>k (.cl f a b)
 |.any=>k .any
def fCL:List CV->(List CV->Prop)->Prop
 |[],k=>k []
 |x::r,k=>fC x fun x=>fCL r fun r=>k (x::r)
def fT0 (x:TV) (k:TV->Prop):Prop:=
 match x with
 |.c x=>fC x fun x=>k (.c x)
 |.agg xs=>fCL xs fun xs=>k (.agg xs)
 |.tup vs=>k (.tup vs)
 |.any=>k .any
def fTL:List TV->(List TV->Prop)->Prop
 |[],k=>k []
 |x::r,k=>fT0 x fun x=>fTL r fun r=>k (x::r)
def fT (x:TV) (k:TV->Prop):Prop:=
 match x with
 |.c x=>fC x fun x=>k (.c x)
 |.agg xs=>fCL xs fun xs=>k (.agg xs)
 |.tup vs=>fTL vs fun vs=>k (.tup vs)
 |.any=>k .any
def fB (x:AB) (k:AB->Prop):Prop:=
 match x with
 |.vars cs=>fCL cs fun cs=>k (.vars cs)
 |.data e l=>k (.data e l)
 |.hole e l i off b=>k (.hole e l i off b)
 |.dead=>k .dead
 |.map l=>k (.map l)
 |.ghost P l r=>k (.ghost P l r)
def fH:zg->(zg->Prop)->Prop
 |[],k=>k []
 |(b,x)::r,k=>fB x fun x=>fH r fun r=>k ((b,x)::r)
def zv8:zg->zg->(zg->Prop)->Prop
 |[],h,k=>k h
 |p::δ,h,k=>zv8 δ h fun h=>k (p::h)
def fN (n:Nat) (k:Nat->Prop):Prop:=
 match n with
 |0=>k 0
 |n+1=>k (n+1)
theorem zym (v:Value) (k:Value->Prop):fV v k=k v:=by cases v<;>rfl
theorem zyM (x:DV) (k:DV->Prop):fD0 x k=k x:=by cases x<;>simp only[fD0,zym]
theorem zwq:∀(x:List DV) (k:List DV->Prop),fDL x k=k x
 |[],_=>rfl
 |x::r,k=>by simp only[fDL,zyM,zwq r]
theorem zzm (x:DV) (k:DV->Prop):fD x k=k x:=by cases x<;>simp only[fD,zym,zwq]
theorem zxl (x:CV) (k:CV->Prop):fC x k=k x:=by cases x<;>simp only[fC,zzm]
theorem zoQ:∀(x:List CV) (k:List CV->Prop),fCL x k=k x
 |[],_=>rfl
 |x::r,k=>by simp only[fCL,zxl,zoQ r]
theorem zyW (x:TV) (k:TV->Prop):fT0 x k=k x:=by cases x<;>simp only[fT0,zxl,zoQ]
theorem zls:∀(x:List TV) (k:List TV->Prop),fTL x k=k x
 |[],_=>rfl
 |x::r,k=>by simp only[fTL,zyW,zls r]
theorem zwV (x:TV) (k:TV->Prop):fT x k=k x:=by cases x<;>simp only[fT,zxl,zoQ,zls]
theorem zzB (x:AB) (k:AB->Prop):fB x k=k x:=by cases x<;>simp only[fB,zoQ]
theorem ztR:∀(x:zg) (k:zg->Prop),fH x k=k x
 |[],_=>rfl
 |(b,x)::r,k=>by simp only[fH,zzB,ztR r]
theorem ztu:∀(δ h:zg) (k:zg->Prop),zv8 δ h k=k (δ++h)
 |[],_,_=>rfl
 |p::δ,h,k=>by simp only[zv8,ztu δ h];rfl
theorem zvv (n:Nat) (k:Nat->Prop):fN n k=k n:=by cases n<;>rfl
def zmw (R:RS) (i:Nat) (dst:Option Nat) (own L:Chain) (v:TV) (δ:zg) (k:RS->Prop):Prop:=
 match R,dst with
 |⟨r,ch,kt,kf,h⟩,some d=>zv8 δ h fun h=>k ⟨(d,L,v)::r,(i,own)::ch,kt,kf,h⟩
 |⟨r,ch,kt,kf,h⟩,none=>zv8 δ h fun h=>k ⟨r,(i,own)::ch,kt,kf,h⟩
theorem ztQ (R:RS) (i:Nat) (dst:Option Nat) (own L:Chain) (v:TV) (δ:zg) (k:RS->Prop):zmw R i dst own L v δ k=k (R.put i dst own L v δ):=by
 cases R
 cases dst<;>simp only[zmw,ztu,RS.put]
def RS.addT (L:Chain):RS->RS
 |⟨r,ch,kt,kf,h⟩=>⟨r,ch,L::kt,kf,h⟩
def RS.addF (L:Chain):RS->RS
 |⟨r,ch,kt,kf,h⟩=>⟨r,ch,kt,L::kf,h⟩
def ztO (X:Ctx) (ops:List Oper) (t:List (Nat×TV)) (base i:Nat) (o:Oper) (R:RS) (L:Chain) (k:RS->Prop):Prop:=
 match zkn X ops R t L base i o.op with
 |.ok v δ=>bif dOk base δ then fT v fun v=>fH δ fun δ=>zmw R i o.dst L [] v δ k else False
 |.ob p v δ=>bif dOk base δ then AOb p (fT v fun v=>fH δ fun δ=>zmw R i o.dst L [] v δ k) else False
 |.dem p=>∀b,p b->zmw R i o.dst L [] (.bo b) [] k
 |.call f args post=>fTL args fun args=>ACall X f (args++post) R.h base fun v δ=>fT v fun v=>fH δ fun δ=>zmw R i o.dst L [] v δ k
 |.yld l args=>fTL args fun args=>AYield X l args R.h fun v δ=>zmw R i o.dst L [] v δ k
 |.bad=>False
theorem zwR (X:Ctx) (ops:List Oper) (t:List (Nat×TV)) (base i:Nat) (o:Oper) (R:RS) (L:Chain) (k:RS->Prop):ztO X ops t base i o R L k=arun X ops t base i o R L k:=by
 unfold ztO arun
 cases zkn X ops R t L base i o.op<;>simp only[zwV,ztR,zls,ztQ]
def zsz (X:Ctx) (ops:List Oper) (t:List (Nat×TV)) (base i:Nat) (o:Oper) (R:RS) (k:RS->Prop):Prop:=
 match R.chainAt o with
 |none=>False
 |some L=>
  bif Chain.ends R.kf L then zmw R i o.dst L [] .any [] k
  else bif L.beq [] || Chain.mem L R.kt then ztO X ops t base i o R L k
  else
   match R.cond ops L with
   |none=>False
   |some c=>
    match zkn X ops R t L base i o.op with
    |.ok v []=>fT v fun v=>zmw R i o.dst L L v [] k
    |.ob p v []=>AOb (c->p) (fT v fun v=>zmw R i o.dst L L v [] k)
    |_=>AIf c (ztO X ops t base i o (R.addT L) L k) (zmw (R.addF L) i o.dst L [] .any [] k)
theorem zuq (X:Ctx) (ops:List Oper) (t:List (Nat×TV)) (base i:Nat) (o:Oper) (R:RS) (k:RS->Prop):zsz X ops t base i o R k=astep X ops t base i o R k:=by
 unfold zsz astep
 have e1:∀L,R.addT L={R with kt:=L::R.kt}:=by intro L;cases R;rfl
 have e2:∀L,R.addF L={R with kf:=L::R.kf}:=by intro L;cases R;rfl
 cases R.chainAt o with
 |none=>simp only[]
 |some L=>
  simp only[ztQ,zwR,zwV,e1,e2]
  cases R.cond ops L with
  |none=>simp only[]
  |some c=>
   simp only[]
   cases zkn X ops R t L base i o.op with
   |ok v δ=>cases δ<;>simp only[]
   |ob p v δ=>cases δ<;>simp only[]
   |dem p=>simp only[]
   |call f args post=>simp only[]
   |yld l args=>simp only[]
   |bad=>simp only[]
def zt7 (X:Ctx) (ops:List Oper) (t:List (Nat×TV)) (nx:Nat):List Oper->Nat->RS->(RS->Prop)->Prop
 |[],_,R,K=>K R
 |o::rest,i,R,K=>zsz X ops t (nx+32*i) i o R fun R'=>zt7 X ops t nx rest (i+1) R' K
theorem zq1 (X:Ctx) (ops:List Oper) (t:List (Nat×TV)) (nx:Nat):∀(rest:List Oper) (i:Nat) (R:RS) (K:RS->Prop),zt7 X ops t nx rest i R K=zxs X ops t nx rest i R K
 |[],_,_,_=>rfl
 |o::rest,i,R,K=>by
  simp only[zt7,zxs,zuq]
  congr 1
  funext R'
  exact zq1 X ops t nx rest (i+1) R' K
def zoe (kt:List Chain):List (Nat×Chain×TV)->List (Nat×TV)->(List (Nat×TV)->Prop)->Prop
 |[],t,k=>k t
 |(s,c,v)::r,t,k=>zoe kt r t fun t=>bif c.beq [] || c.mem kt then k ((s,v)::t) else k ((s,.any)::t)
theorem znZ (kt:List Chain) (t:List (Nat×TV)):∀(r:List (Nat×Chain×TV)) (k:List (Nat×TV)->Prop),zoe kt r t k=k (r.map (fun(s,c,v)=>(s,bif c.beq [] || c.mem kt then v else .any))++t)
 |[],_=>rfl
 |(s,c,v)::r,k=>by
  simp only[zoe,znZ kt t r]
  cases hc:c.beq [] || c.mem kt<;>simp[hc]
def zzF (t:List (Nat×TV)) (nx n:Nat) (Q:AExit->AS->Prop):RS->Prop
 |⟨r,_,kt,_,h⟩=>zoe kt r t fun t=>fN (nx+32*n) fun nx=>Q .normal ⟨t,h,nx⟩
def zxK (X:Ctx) (ops:List Oper) (an:List Nat) (t:List (Nat×TV)) (nx i:Nat) (o:Oper) (T:List DE) (H:zg) (G:List (Nat×Bool)) (K:List DE->List (Nat×Bool)->Prop):Prop:=
 match zgq X ops an (zgy ops an T t i) H G (nx+32*i) i o.op with
 |.ok v δ=>bif zlM (nx+32*i) H δ then fT v fun v=>fH δ fun δ=>K (⟨i,o.dst,v,δ,H,false⟩::T) G else False
 |.ob p v δ=>bif zlM (nx+32*i) H δ then AOb p (fT v fun v=>fH δ fun δ=>K (⟨i,o.dst,v,δ,H,false⟩::T) G) else False
 |.call f args post=>fTL args fun args=>ADCall X f (args++post) H (nx+32*i) fun v δ=>fT v fun v=>fH δ fun δ=>K (⟨i,o.dst,v,δ,H,false⟩::T) G
 |_=>False
def zw5 (X:Ctx) (ops:List Oper) (an:List Nat) (t:List (Nat×TV)) (nx i:Nat) (o:Oper) (T:List DE) (G:List (Nat×Bool)) (K:List DE->List (Nat×Bool)->Prop) (H:zg):Prop:=
 match zkH an T G i o with
 |.go=>zxK X ops an t nx i o T H G K
 |.pass=>K (⟨i,o.dst,.any,[],H,true⟩::T) G
 |.ask j true b=>ABr b (zxK X ops an t nx i o T H ((j,true)::G) K) (K (⟨i,o.dst,.any,[],H,true⟩::T) ((j,false)::G))
 |.ask j false b=>ABr b (K (⟨i,o.dst,.any,[],H,true⟩::T) ((j,true)::G)) (zxK X ops an t nx i o T H ((j,false)::G) K)
 |.bad=>False
def ztE (X:Ctx) (ops:List Oper) (an:List Nat) (wr:DWr) (t:List (Nat×TV)) (h:zg) (nx:Nat):List Oper->Nat->List DE->List (Nat×Bool)->(List DE->Prop)->Prop
 |[],_,T,_,K=>K T
 |o::rest,i,T,G,K=>fH (zgp an wr h T i o) (zw5 X ops an t nx i o T G fun T G=>ztE X ops an wr t h nx rest (i+1) T G K)
theorem zpL (X:Ctx) (ops:List Oper) (an:List Nat) (wr:DWr) (t:List (Nat×TV)) (h:zg) (nx:Nat):∀(rest:List Oper) (i:Nat) (T:List DE) (G:List (Nat×Bool)) (K:List DE->Prop),ztE X ops an wr t h nx rest i T G K=zj7 X ops an wr t h nx rest i T G K
 |[],_,_,_,_=>rfl
 |o::rest,i,T,G,K=>by
  simp only[ztE,zj7,ztR,zw5,zxK,zwV,zls,zpL X ops an wr t h nx rest]
  cases zkH an T G i o with
  |go=>simp only[];cases zgq X ops an (zgy ops an T t i) (zgp an wr h T i o) G (nx+32*i) i o.op<;>simp only[]
  |pass=>simp only[]
  |ask j w b=>
   cases w with
   |true=>simp only[];cases zgq X ops an (zgy ops an T t i) (zgp an wr h T i o) ((j,true)::G) (nx+32*i) i o.op<;>simp only[]
   |false=>simp only[];cases zgq X ops an (zgy ops an T t i) (zgp an wr h T i o) ((j,false)::G) (nx+32*i) i o.op<;>simp only[]
  |bad=>simp only[]
def zhr:List DE->List (Nat×TV)->(List (Nat×TV)->Prop)->Prop
 |[],t,k=>k t
 |⟨_,some d,v,_,_,_⟩::r,t,k=>zhr r t fun t=>k ((d,v)::t)
 |⟨_,none,_,_,_,_⟩::r,t,k=>zhr r t k
theorem zit (t:List (Nat×TV)):∀(T:List DE) (k:List (Nat×TV)->Prop),zhr T t k=k (zdl T++t)
 |[],_=>rfl
 |⟨_,some d,v,_,_,_⟩::r,k=>by simp only[zhr,zit t r,zdl];rfl
 |⟨_,none,_,_,_,_⟩::r,k=>by simp only[zhr,zit t r,zdl]
def fWr:List (Nat×Nat)->(List (Nat×Nat)->Prop)->Prop
 |[],k=>k []
 |(i,b)::r,k=>fN i fun i=>fN b fun b=>fWr r fun r=>k ((i,b)::r)
theorem zwy:∀(l:List (Nat×Nat)) (k:List (Nat×Nat)->Prop),fWr l k=k l
 |[],_=>rfl
 |(i,b)::r,k=>by simp only[fWr,zvv,zwy r]
def zsU (X:Ctx) (ops:List Oper) (t:List (Nat×TV)) (h:zg) (nx:Nat) (K:List (Nat×TV)->zg->Prop):Prop:=
 bif zdx 0 ops then
  fWr (zmq ops t h 0 ops) fun wr=>fWr (zrU ops t h 0 ops) fun rd=>ztE X ops (zcf ops []) (wr,rd) t h nx ops 0 [] [] fun T=>
   bif zfR (zcf ops []) T then zhr T t fun t=>fH (zaW (fun _=>true) h T) fun h=>K t h else False
 else False
theorem zur (X:Ctx) (ops:List Oper) (t:List (Nat×TV)) (h:zg) (nx:Nat) (K:List (Nat×TV)->zg->Prop):zsU X ops t h nx K=zqs X ops t h nx K:=by
 simp only[zsU,zqs,zpL,zit,ztR,zwy]
def zlv (X:Ctx) (nt:Nat) (ops:List Oper) (draw:Bool):AS->(AExit->AS->Prop)->Prop
 |⟨t,h,nx⟩,Q=>
  bif !(zrt nt ops []) then False else bif draw then zsU X ops t h nx fun t h=>fN (nx+32*ops.length) fun nx=>Q .normal ⟨t,h,nx⟩ else
   zt7 X ops t nx ops 0 ⟨[],[],[],[],h⟩ (zzF t nx ops.length Q)
theorem zra (X:Ctx) (nt:Nat) (ops:List Oper) (draw:Bool) (s:AS) (Q:AExit->AS->Prop):zlv X nt ops draw s Q=zk7 X nt ops draw s Q:=by
 cases s with|mk t h nx=>
 simp only[zlv,zk7,zur,zvv,zq1]
 congr 1
 congr 1
 congr 1
 funext R
 cases R
 simp only[zzF,znZ,zvv,RS.strip]
def zeK (X:Ctx) (nt:Nat):Code->Md->AS->(AExit->AS->Prop)->Prop
 |.seq a b,.plain,s,Q=>zeK X nt a .plain s (zyv (zeK X nt b .plain) Q)
 |.seq a b,.spine,s,Q=>zeK X nt a .plain s (zvW (zeK X nt b .spine) (fun l=>zeK X nt b (.at l)) (fun l=>zbC l b) Q)
 |.seq a b,.at l,s,Q=>bif isL l a then zeK X nt b .spine s Q else zeK X nt b (.at l) s Q
 |.label l',.at l,s,Q=>bif Nat.beq l' l then Q .normal s else False
 |.skip,_,s,Q=>Q .normal s
 |.cond c a b,_,s,Q=>match X.opd (look .any s.t) c with
  |.c (.d (.lit (.bool v)))=>ABr v (zeK X nt a .plain s Q) (zeK X nt b .plain s Q)
  |_=>False
 |.block id b,_,s,Q=>zeK X nt b .plain s (zti id Q)
 |.loop b,_,s,Q=>∃n,ALoop (zeK X nt b .plain) n s Q
 |.ret,_,s,Q=>Q .ret s
 |.exit id,_,s,Q=>Q (.exit id) s
 |.goto l,_,s,Q=>Q (.goto l) s
 |.region _ ops draw,_,s,Q=>zlv X nt ops.toList draw s Q
 |.rangeFunc g ps a b,_,s,Q=>bif zaD a&&zaD b then ARange X nt g ps.toList (zeK X nt a .plain) (zeK X nt b .plain) s Q else False
 |.scope b,_,s,Q=>bif zcR b then zeK X nt b .spine s (zxn (fun l=>zbC l b) Q) else False
 |.label _,_,s,Q=>Q .normal s
 |.refuse _,_,_,_=>False
theorem zdu (X:Ctx) (nt:Nat):∀(c:Code) (m:Md),zeK X nt c m=zbB X nt c m
 |.seq a b,m=>by cases m<;>funext s Q<;>simp only[zeK,zbB,zdu X nt a,zdu X nt b]
 |.cond c a b,m=>by
  cases m<;>funext s Q<;>simp only[zeK,zbB,zdu X nt a,zdu X nt b]<;>generalize X.opd (look .any s.t) c=z<;>cases z<;>try rfl
  all_goals (rename_i x;cases x<;>try rfl)
  all_goals (rename_i y;cases y<;>try rfl)
  all_goals (rename_i v;cases v<;>rfl)
 |.block id b,m=>by cases m<;>funext s Q<;>simp only[zeK,zbB,zdu X nt b]
 |.loop b,m=>by cases m<;>funext s Q<;>simp only[zeK,zbB,zdu X nt b]
 |.region _ ops draw,m=>by cases m<;>funext s Q<;>exact zra X nt ops.toList draw s Q
 |.rangeFunc g ps a b,m=>by cases m<;>funext s Q<;>simp only[zeK,zbB,zdu X nt a,zdu X nt b]
 |.scope b,m=>by cases m<;>funext s Q<;>simp only[zeK,zbB,zdu X nt b]
 |.skip,m=>by cases m<;>rfl
 |.ret,m=>by cases m<;>rfl
 |.exit _,m=>by cases m<;>rfl
 |.label _,m=>by cases m<;>rfl
 |.goto _,m=>by cases m<;>rfl
 |.refuse _,m=>by cases m<;>rfl
def zxN (X:Ctx) (fn:Func) (H:zg) (args:List TV) (Q:zg->TV->Prop):Prop:=
 match fn.body with
 |some c=>Nat.ble args.length fn.ntmps=true/\fTL args fun args=>zeK X fn.ntmps c .plain ⟨zsR 0 args,H,32⟩ (zwF X fn Q)
 |none=>False
theorem zx2 (X:Ctx) (fn:Func) (H:zg) (args:List TV) (Q:zg->TV->Prop):zxN X fn H args Q=Den X fn H args Q:=by
 unfold zxN Den
 simp only[zls,zdu]
 cases fn.body<;>simp only[]
theorem zxT {X:Ctx} (hX:XOk X) {f:Nat} (fn:Func) (hf:X.P.funcs[f]? = some fn) (hn:(fn.name=="runtime.NumGoroutine")=false) (hb:fn.body.isNone=false) {H:zg} {args:List TV} {Q:zg->TV->Prop} (h:bdL args->bdH H->zxN X fn H args Q):Spec X f H args Q:=
 zu7 hX fn hf hn hb fun h1 h2=>by rw[←zx2];exact h h1 h2
theorem zGO {X : Ctx} (hX : XOk X) {f : Nat} (fn : Func) {H : zg} {args : List TV} {Q : zg -> TV -> Prop} (h : bdL args -> bdH H -> zxN X fn H args Q) (hf : X.P.funcs[f]? = some fn := by kernel_rfl) (hn : (fn.name == "runtime.NumGoroutine") = false := by kernel_rfl) (hb : fn.body.isNone = false := by kernel_rfl) : Spec X f H args Q := zxT hX fn hf hn hb h
end Go.Abs
