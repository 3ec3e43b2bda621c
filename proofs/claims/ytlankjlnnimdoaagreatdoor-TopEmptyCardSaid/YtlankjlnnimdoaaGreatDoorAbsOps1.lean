/- How abstract values stand to the machine's; and each operation is held against what is said of it: first half, and maps. -/
import Derived.Test.YtlankjlnnimdoaaGreatDoorAbsEval1
import Derived.WalkKit
import Derived.RangeFuncIn
import Derived.Laws.Rows
import Derived.Laws.Tables
import Derived.Laws.CopyRow
import Derived.Laws.AppendOwn
set_option linter.all false
namespace Go.Abs
structure RL where
 blk:Nat
 cap:Nat
 len:Nat
 esz:Nat
structure Tok where
 P:Program
 l:Nat
 J:Option (List (Int×Int))->(Nat->Prop)->(Nat->Prop)->World->Prop
 Y:Nat->Prop
inductive NS where
 |unused
 |nil
 |dead
 |live (r:RL)
 |tok (T:Tok)
abbrev zm:=Nat->NS
def NS.has:NS->Nat->Prop
 |.live r,k=>r.blk=k
 |.tok T,k=>T.Y k
 |_,_=>False
theorem NS.has_live {s:NS} {r:RL} (h:s = .live r):s.has r.blk:=by subst h;rfl
theorem NS.has_inv {s:NS} {k:Nat} (h:s.has k):(∃r,s = .live r/\r.blk=k)\/(∃T,s = .tok T/\T.Y k):=by
 cases s with
 |live r=>exact .inl ⟨r,rfl,h⟩
 |tok T=>exact .inr ⟨T,rfl,h⟩
 |unused=>exact h.elim
 |nil=>exact h.elim
 |dead=>exact h.elim
def zN (N:zm) (k:Nat):Prop:=∃b,(N b).has k
theorem zet {N:zm} {b:Nat} {r:RL} (h:N b = .live r):zN N r.blk:=⟨b,NS.has_live h⟩
def OO (N:zm) (S:Nat->Prop) (k:Nat):Prop:=zN N k\/S k
def zdX (w:World) (a:Addr) (vs:List Value):Prop:=∀j v,vs[j]? = some v->w.cell? ⟨a.block,a.off+j,none⟩=some v
def zE:Nat:=140737488355328
inductive Rep (O:Nat->Prop) (w:World):DV->Value->Prop
 |lit (v:Value) (h:v.oneCell' = true):Rep O w (.lit v) v
 |slnil (k:EK) (a:Option Addr) (c:Nat):Rep O w (.sl k []) (.slice a 0 c)
 |sl (k:EK) (l:List k.T) (a:Addr) (c:Nat) (vs:List Value) (ho:vs≠[]->¬O a.block) (hs:a.spot=none) (hc:l.length<=c) (hm:l.length<=zE)
   (hl:(l.flatMap k.enc).length=vs.length) (hr:∀(i:Nat) (x:DV) (v:Value),(l.flatMap k.enc)[i]? = some x->vs[i]? = some v->Rep O w x v) (hw:zdX w a vs):Rep O w (.sl k l) (.slice (some a) l.length c)
 |rp (xs:List DV) (a:Addr) (vs:List Value) (ho:vs≠[]->¬O a.block) (hs:a.spot=none)
   (hl:xs.length=vs.length) (hr:∀(i:Nat) (x:DV) (v:Value),xs[i]? = some x->vs[i]? = some v->Rep O w x v) (hw:zdX w a vs):Rep O w (.rp xs) (.pointer (some a))
 |fn (f:Nat) (first caps:List DV) (vf vc:Array Value) (hf:first.length=vf.size) (hc:caps.length=vc.size)
   (hrf:∀(i:Nat) (x:DV) (v:Value),first[i]? = some x->vf[i]? = some v->Rep O w x v) (hrc:∀(i:Nat) (x:DV) (v:Value),caps[i]? = some x->vc[i]? = some v->Rep O w x v):Rep O w (.fn f first caps) (.func (.func f) vf vc)
 |mp (l:List (Int×Bool)) (r:Nat) (es:Array MapEntry) (c:Nat) (ho:¬O r) (hw:w.heap[r]? = some (.map es c)) (hl:es.size=l.length)
   (h:∀(i:Nat) (p:Int×Bool) (e:MapEntry),l[i]? = some p->es[i]? = some e->e.key = .int .i64 p.1/\e.val = .bool p.2):Rep O w (.mp l) (.map (some r))
def zjB (r:RL):Value:=if r.esz=0 then .map (some r.blk) else .slice (some ⟨r.blk,0,none⟩) r.len r.cap
theorem zoL {r:RL} {k:Nat} (h:r.esz=k) (hk:0<k):zjB r = .slice (some ⟨r.blk,0,none⟩) r.len r.cap:=if_neg (by omega)
theorem zaE {r:RL} {k:EK} (h:r.esz=k.size):zjB r = .slice (some ⟨r.blk,0,none⟩) r.len r.cap:=zoL h (by cases k<;>simp[EK.size])
theorem zia {r:RL} (h:r.esz=0):zjB r = .map (some r.blk):=if_pos h
theorem zic (r:RL):(zjB r).oneCell' = true:=by unfold zjB;split<;>rfl
def RepL (O:Nat->Prop) (w:World) (xs:List DV) (vs:List Value):Prop:=
 xs.length=vs.length/\∀(i:Nat) (x:DV) (v:Value),xs[i]? = some x->vs[i]? = some v->Rep O w x v
theorem Rep.one {O:Nat->Prop} {w:World} {x:DV} {v:Value} (h:Rep O w x v):v.oneCell' = true:=by
 cases h<;>first|assumption|rfl
structure WExt (O:Nat->Prop) (w w' : World):Prop where
 os:w'.os=w.os
 tape:w'.tape=w.tape
 output:w'.output=w.output
 size:w.heap.size<=w'.heap.size
 block:∀k,k<w.heap.size->¬O k->w'.heap[k]? = w.heap[k]?
theorem WExt.refl (O:Nat->Prop) (w:World):WExt O w w:=⟨rfl,rfl,rfl,Nat.le_refl _,fun _ _ _=>rfl⟩
theorem WExt.mono {O O' : Nat->Prop} {w w' : World} (h:WExt O w w') (ho:∀k,k<w.heap.size->O k->O' k):WExt O' w w':=
 ⟨h.os,h.tape,h.output,h.size,fun k hk hn=>h.block k hk fun hx=>hn (ho k hk hx)⟩
theorem WExt.trans {O O' : Nat->Prop} {w w' w'' : World} (h:WExt O w w') (h' : WExt O' w' w'') (ho:∀k,k<w.heap.size->O' k->O k):WExt O w w'':=
 ⟨h'.os.trans h.os,h'.tape.trans h.tape,h'.output.trans h.output,Nat.le_trans h.size h'.size,
  fun k hk hn=>(h'.block k (Nat.lt_of_lt_of_le hk h.size) fun hx=>hn (ho k hk hx)).trans (h.block k hk hn)⟩
theorem WExt.cell {O:Nat->Prop} {w w' : World} (h:WExt O w w') {a:Addr} {v:Value} (hv:w.cell? a=some v) (ho:¬O a.block):w'.cell? a=some v:=by
 have hlt:=World.block_lt_of_cell? w a hv
 rw[←hv]
 simp only[World.cell?,h.block a.block hlt ho]
theorem Rep.keepC {O O' : Nat->Prop} {w w' : World} (hc:∀(a:Addr) (v:Value),¬O a.block->w.cell? a=some v->w'.cell? a=some v) (hmp:∀(k:Nat) (es:Array MapEntry) (c:Nat),¬O k->w.heap[k]? = some (.map es c)->w'.heap[k]? = some (.map es c)) (ho:∀k,k<w.heap.size->O' k->O k) {x:DV} {v:Value} (h:Rep O w x v):Rep O' w' x v:=by
 have key:∀(a:Addr) (vs:List Value),(vs≠[]->¬O a.block)->zdX w a vs->(vs≠[]->¬O' a.block)/\zdX w' a vs:=by
  intro a vs hn hcell
  refine⟨fun hne hx=>?_,fun j v hv=>?_⟩
  ·cases vs with
   |nil=>exact hne rfl
   |cons v0 r=>exact hn hne (ho _ (World.block_lt_of_cell? w ⟨a.block,a.off+0,none⟩ (hcell 0 v0 rfl)) hx)
  ·exact hc _ _ (hn (by intro e;subst e;simp at hv)) (hcell j v hv)
 induction h with
 |lit v h=>exact .lit v h
 |slnil k a c=>exact .slnil k a c
 |sl k l a c vs hn hs hc hm hl hr hcell ih=>exact .sl k l a c vs (key a vs hn hcell).1 hs hc hm hl ih (key a vs hn hcell).2
 |rp xs a vs hn hs hl hr hcell ih=>exact .rp xs a vs (key a vs hn hcell).1 hs hl ih (key a vs hn hcell).2
 |fn f first caps vf vc hf hc hrf hrc ihf ihc=>exact .fn f first caps vf vc hf hc ihf ihc
 |mp l r es c hn hb hl he=>exact .mp l r es c (fun hx=>hn (ho r (Array.getElem?_eq_some_iff.1 hb).1 hx)) (hmp r es c hn hb) hl he
theorem Rep.keep {O O' : Nat->Prop} {w w' : World} (hw:WExt O w w') (ho:∀k,k<w.heap.size->O' k->O k) {x:DV} {v:Value} (h:Rep O w x v):Rep O' w' x v:=
 h.keepC (fun _ _ hn hv=>hw.cell hv hn) (fun k _ _ hn hb=>(hw.block k (Array.getElem?_eq_some_iff.1 hb).1 hn).trans hb) ho
structure WExtD (O:Nat->Prop) (w w' : World):Prop where
 size:w.heap.size<=w'.heap.size
 same:∀(k:Nat) (o:Obj),¬O k->w.heap[k]? = some o->(∀ds,o≠.deferred ds)->w'.heap[k]? = some o
theorem WExt.toD {O:Nat->Prop} {w w' : World} (h:WExt O w w'):WExtD O w w':=
 ⟨h.size,fun k o hk ho _=>(h.block k (Array.getElem?_eq_some_iff.1 ho).1 hk).trans ho⟩
theorem WExtD.mono {O O' : Nat->Prop} {w w' : World} (h:WExtD O w w') (ho:∀k,k<w.heap.size->O k->O' k):WExtD O' w w':=
 ⟨h.size,fun k o hk hs hd=>h.same k o (fun hx=>hk (ho k (Array.getElem?_eq_some_iff.1 hs).1 hx)) hs hd⟩
theorem WExtD.cell {O:Nat->Prop} {w w' : World} (h:WExtD O w w') {a:Addr} {v:Value} (hv:w.cell? a=some v) (ho:¬O a.block):w'.cell? a=some v:=by
 cases hb:w.heap[a.block]? with
 |none=>simp[World.cell?,hb]at hv
 |some o=>
  have hd:∀ds,o≠.deferred ds:=fun ds e=>by subst e;simp[World.cell?,hb]at hv
  rw[←hv]
  simp only[World.cell?,h.same a.block o ho hb hd,hb]
theorem RepL.keep {O O' : Nat->Prop} {w w' : World} (hw:WExt O w w') (ho:∀k,k<w.heap.size->O' k->O k) {x:List DV} {v:List Value} (h:RepL O w x v):RepL O' w' x v:=
 ⟨h.1,fun i x v hx hv=>(h.2 i x v hx hv).keep hw ho⟩
inductive RepC (N:zm) (S:Nat->Prop) (w:World):CV->Value->Prop
 |d (x:DV) (v:Value) (h:Rep (OO N S) w x v):RepC N S w (.d x) v
 |ptr (b i off:Nat) (r:RL) (h:N b = .live r):RepC N S w (.ptr b i off) (.pointer (some ⟨r.blk,i*r.esz+off,none⟩))
 |own0 (b:Nat) (a:Option Addr) (h:N b = .nil):RepC N S w (.own b) (.slice a 0 0)
 |own (b:Nat) (r:RL) (h:N b = .live r):RepC N S w (.own b) (zjB r)
 |view0 (b o:Nat) (a:Option Addr) (h:N b≠.unused):RepC N S w (.view b o 0) (.slice a 0 0)
 |view (b o n c:Nat) (r:RL) (h:N b = .live r) (h1:o+c<=r.cap) (h2:n<=c) (h3:o+n<=r.len):RepC N S w (.view b o n) (.slice (some ⟨r.blk,o*r.esz,none⟩) n c)
 |ptrD (b i off:Nat) (v:Value) (h:N b = .dead) (h1:v.oneCell' = true):RepC N S w (.ptr b i off) v
 |ownD (b:Nat) (v:Value) (h:N b = .dead) (h1:v.oneCell' = true):RepC N S w (.own b) v
 |viewD (b o n:Nat) (v:Value) (h:N b = .dead) (h1:v.oneCell' = true):RepC N S w (.view b o n) v
 |cl (f:Nat) (first caps:List CV) (vf vc:Array Value) (hf:first.length=vf.size) (hc:caps.length=vc.size)
   (hrf:∀(i:Nat) (x:CV) (v:Value),first[i]? = some x->vf[i]? = some v->RepC N S w x v) (hrc:∀(i:Nat) (x:CV) (v:Value),caps[i]? = some x->vc[i]? = some v->RepC N S w x v):RepC N S w (.cl f first caps) (.func (.func f) vf vc)
 |any (v:Value) (h:v.oneCell' = true):RepC N S w .any v
def RepCL (N:zm) (S:Nat->Prop) (w:World) (xs:List CV) (vs:List Value):Prop:=
 xs.length=vs.length/\∀(i:Nat) (x:CV) (v:Value),xs[i]? = some x->vs[i]? = some v->RepC N S w x v
inductive RepT (N:zm) (S:Nat->Prop) (w:World):TV->Value->Prop
 |c (x:CV) (v:Value) (h:RepC N S w x v):RepT N S w (.c x) v
 |agg (xs:List CV) (vs:Array Value) (h:RepCL N S w xs vs.toList):RepT N S w (.agg xs) (.agg vs)
 |tup (xs:List TV) (vs:Array Value) (hl:xs.length=vs.size) (h:∀(i:Nat) (x:TV) (v:Value),xs[i]? = some x->vs[i]? = some v->RepT N S w x v):RepT N S w (.tup xs) (.tuple vs)
 |any (v:Value):RepT N S w .any v
theorem RepC.one {N:zm} {S:Nat->Prop} {w:World} {x:CV} {v:Value} (h:RepC N S w x v):v.oneCell' = true:=by
 cases h<;>first|assumption|rfl|exact Rep.one (by assumption)|exact zic _
theorem RepC.ownk {N:zm} {S:Nat->Prop} {w:World} (b:Nat) (r:RL) (k:EK) (h:N b = .live r) (hk:r.esz=k.size):RepC N S w (.own b) (.slice (some ⟨r.blk,0,none⟩) r.len r.cap):=by
 rw[←zaE hk];exact .own b r h
structure NExt (N N' : zm) (w:World):Prop where
 nm:∀b,N b = .unused\/N' b=N b\/N' b = .dead\/∃T Y,N b = .tok T/\N' b = .tok {T with Y:=Y}
 own:∀k,k<w.heap.size->zN N' k->zN N k
theorem NExt.refl (N:zm) (w:World):NExt N N w:=⟨fun _=>.inr (.inl rfl),fun _ _ h=>h⟩
theorem NExt.oo {N N' : zm} {w:World} (h:NExt N N' w) (S:Nat->Prop):∀k,k<w.heap.size->OO N' S k->OO N S k:=
 fun k hk ho=>ho.imp (h.own k hk) id
theorem RepC.keep {N N' : zm} {S:Nat->Prop} {w w' : World} (hw:WExt (OO N S) w w') (hn:NExt N N' w) {x:CV} {v:Value} (h:RepC N S w x v):RepC N' S w' x v:=by
 induction h with
 |d x v h=>exact .d x v (h.keep hw (hn.oo S))
 |ptr b i off r h=>
  rcases hn.nm b with e|e|e|⟨T,T',e,e'⟩
  ·rw[h]at e;cases e
  ·exact .ptr b i off r (e.trans h)
  ·exact .ptrD b i off _ e rfl
  ·rw[h]at e;cases e
 |own0 b a h=>
  rcases hn.nm b with e|e|e|⟨T,T',e,e'⟩
  ·rw[h]at e;cases e
  ·exact .own0 b a (e.trans h)
  ·exact .ownD b _ e rfl
  ·rw[h]at e;cases e
 |own b r h=>
  rcases hn.nm b with e|e|e|⟨T,T',e,e'⟩
  ·rw[h]at e;cases e
  ·exact .own b r (e.trans h)
  ·exact .ownD b _ e (zic r)
  ·rw[h]at e;cases e
 |view0 b o a h=>
  rcases hn.nm b with e|e|e|⟨T,T',e,e'⟩
  ·exact absurd e h
  ·exact .view0 b o a (by rw[e];exact h)
  ·exact .viewD b o 0 _ e rfl
  ·exact .view0 b o a (by rw[e'];simp)
 |view b o n c r h h1 h2 h3=>
  rcases hn.nm b with e|e|e|⟨T,T',e,e'⟩
  ·rw[h]at e;cases e
  ·exact .view b o n c r (e.trans h) h1 h2 h3
  ·exact .viewD b o n _ e rfl
  ·rw[h]at e;cases e
 |ptrD b i off v h h1=>
  rcases hn.nm b with e|e|e|⟨T,T',e,e'⟩
  ·rw[h]at e;cases e
  ·exact .ptrD b i off v (e.trans h) h1
  ·exact .ptrD b i off v e h1
  ·rw[h]at e;cases e
 |ownD b v h h1=>
  rcases hn.nm b with e|e|e|⟨T,T',e,e'⟩
  ·rw[h]at e;cases e
  ·exact .ownD b v (e.trans h) h1
  ·exact .ownD b v e h1
  ·rw[h]at e;cases e
 |viewD b o n v h h1=>
  rcases hn.nm b with e|e|e|⟨T,T',e,e'⟩
  ·rw[h]at e;cases e
  ·exact .viewD b o n v (e.trans h) h1
  ·exact .viewD b o n v e h1
  ·rw[h]at e;cases e
 |cl f first caps vf vc hf hc hrf hrc ihf ihc=>exact .cl f first caps vf vc hf hc ihf ihc
 |any v h=>exact .any v h
theorem RepCL.keep {N N' : zm} {S:Nat->Prop} {w w' : World} (hw:WExt (OO N S) w w') (hn:NExt N N' w) {x:List CV} {v:List Value} (h:RepCL N S w x v):RepCL N' S w' x v:=
 ⟨h.1,fun i x v hx hv=>(h.2 i x v hx hv).keep hw hn⟩
theorem RepT.keep {N N' : zm} {S:Nat->Prop} {w w' : World} (hw:WExt (OO N S) w w') (hn:NExt N N' w) {x:TV} {v:Value} (h:RepT N S w x v):RepT N' S w' x v:=by
 induction h with
 |c x v h=>exact .c x v (h.keep hw hn)
 |agg xs vs h=>exact .agg xs vs (h.keep hw hn)
 |tup xs vs hl h ih=>exact .tup xs vs hl ih
 |any v=>exact .any v
def zw4 (x:Int×Int):Array Value:=#[.agg #[.int .i64 x.1,.int .i64 x.2]]
structure Tok.Good (T:Tok):Prop where
 keep:∀rest Y R R' w w',T.J rest Y R w->WExtD R w w'->(∀k,k<w.heap.size->R' k->R k)->(∀k,R' k->k<w'.heap.size)->T.J rest Y R' w'
 go:∀x r Y R w,T.J (some (x::r)) Y R w->∃fn tmps assign body,(Instr.yield T.l (zw4 x)).run T.P w = .ok (.round T.l fn tmps assign body) w /\
  RoundIn Fence.wide 0 T.P T.l fn tmps assign body w fun e w'=>∃Y',WExt Y w w'/\(∀k,k<w.heap.size->Y' k->Y k)/\(∀k,Y' k->k<w'.heap.size) /\
   ((e = .returned (.bool true)/\T.J (some r) Y' R w')\/(e = .returned (.bool false)/\T.J none Y' R w'))
def hcells (k:EK) (l:List k.T) (i off b:Nat):List CV:=((l.flatMap k.enc).map CV.d).set (i*k.size+off) (.own b)
def BR (N:zm) (S:Nat->Prop) (w:World) (b:Nat):AB->Prop
 |.vars cs=>∃r vs T,N b = .live r/\w.heap[r.blk]? = some (.cells vs T (0,0))/\RepCL N S w cs vs.toList
 |.data k l=>l.length<=zE/\((N b = .nil/\l=[])\/∃r vs T,N b = .live r/\r.esz=k.size/\r.len=l.length/\l.length<=r.cap /\
   w.heap[r.blk]? = some (.cells vs T (0,0))/\r.cap*k.size<=vs.size/\RepL (OO N S) w (l.flatMap k.enc) (vs.toList.take (l.length*k.size)))
 |.hole k l i off b'=>l.length<=zE/\i<l.length/\off<k.size/\∃r vs T,N b = .live r/\r.esz=k.size/\r.len=l.length/\l.length<=r.cap /\
   w.heap[r.blk]? = some (.cells vs T (0,0))/\r.cap*k.size<=vs.size/\RepCL N S w (hcells k l i off b') (vs.toList.take (l.length*k.size))
 |.dead=>N b = .dead
 |.map l=>∃r es c,N b = .live r/\r.esz=0/\w.heap[r.blk]? = some (.map es c)/\es.size=l.length /\
   ∀(i:Nat) (p:Int×CV) (e:MapEntry),l[i]? = some p->es[i]? = some e->e.key = .int .i64 p.1/\RepC N S w p.2 e.val
 |.ghost P l rest=>∃T,N b = .tok T/\T.P=P/\T.l=l/\T.Good/\T.J rest T.Y (fun k=>(OO N S k/\¬T.Y k)/\k<w.heap.size) w
structure NR (N:zm) (S:Nat->Prop) (w:World):Prop where
 inj' : ∀b b' k,(N b).has k->(N b').has k->b=b'
 lt' : ∀b k,(N b).has k->k<w.heap.size/\¬S k
 sm:∀k,S k->k<w.heap.size
theorem NR.lt {N:zm} {S:Nat->Prop} {w:World} (h:NR N S w):∀b r,N b = .live r->r.blk<w.heap.size/\¬S r.blk:=
 fun b r h1=>h.lt' b r.blk (NS.has_live h1)
def HR (N:zm) (S:Nat->Prop) (w:World) (h:zg):Prop:=∀b x,zh h b=some x->BR N S w b x
def dom (δ:zg) (b:Nat):Prop:=(zh δ b).isSome=true
def chg (N:zm) (δ:zg) (k:Nat):Prop:=∃b,dom δ b/\(N b).has k
structure Step (N:zm) (S:Nat->Prop) (w:World) (N' : zm) (w' : World) (δ:zg):Prop where
 ext:WExt (chg N δ) w w'
 nr:NR N' S w'
 nx:NExt N N' w
 same:∀b,¬dom δ b->N' b=N b
 has:HR N' S w' δ
theorem zhe {N:zm} {δ:zg} {k:Nat} (h:chg N δ k):zN N k:=let ⟨b,_,h1⟩:=h;⟨b,h1⟩
theorem Step.oo {N N' : zm} {S:Nat->Prop} {w w' : World} {δ:zg} (h:Step N S w N' w' δ):WExt (OO N S) w w':=
 h.ext.mono fun _ _ hc=>.inl (zhe hc)
theorem BR.keep {N N' : zm} {S:Nat->Prop} {w w' : World} {b:Nat} {x:AB} (hw:WExt (OO N S) w w') (hn:NExt N N' w) (hb:N' b=N b)
  (hblk:∀r,N b = .live r->w'.heap[r.blk]? = w.heap[r.blk]?) (htok:∀T,N b = .tok T->WExtD (fun k=>OO N S k/\¬T.Y k) w w') (h:BR N S w b x):BR N' S w' b x:=by
 cases x with
 |vars cs=>
  obtain⟨r,vs,T,h1,h2,h3⟩:=h
  exact⟨r,vs,T,hb.trans h1,(hblk r h1).trans h2,h3.keep hw hn⟩
 |data k l=>
  obtain⟨hm,h⟩:=h
  refine⟨hm,?_⟩
  rcases h with⟨h1,h2⟩|⟨r,vs,T,h1,h2,h3,h4,h5,h6,h7⟩
  ·exact .inl ⟨hb.trans h1,h2⟩
  ·exact .inr ⟨r,vs,T,hb.trans h1,h2,h3,h4,(hblk r h1).trans h5,h6,h7.keep hw (hn.oo S)⟩
 |hole k l i off b'=>
  obtain⟨hm,hi,ho,r,vs,T,h1,h2,h3,h4,h5,h6,h7⟩:=h
  exact⟨hm,hi,ho,r,vs,T,hb.trans h1,h2,h3,h4,(hblk r h1).trans h5,h6,h7.keep hw hn⟩
 |dead=>exact hb.trans h
 |map l=>
  obtain⟨r,es,c,h1,h2,h3,h4,h5⟩:=h
  exact⟨r,es,c,hb.trans h1,h2,(hblk r h1).trans h3,h4,fun i p e hp he=>⟨(h5 i p e hp he).1,(h5 i p e hp he).2.keep hw hn⟩⟩
 |ghost P l rest=>
  obtain⟨T,h1,h2,h3,h4,h5⟩:=h
  exact⟨T,hb.trans h1,h2,h3,h4,h4.keep _ _ _ _ _ _ h5 ((htok T h1).mono fun k hk ho=>⟨ho,hk⟩) (fun k hk ho=>⟨⟨hn.oo S k hk ho.1.1,ho.1.2⟩,hk⟩) fun k ho=>ho.2⟩
theorem zR (δ h:zg) (b:Nat):zh (δ++h) b=match zh δ b with|some x=>some x|none=>zh h b:=by
 induction δ with
 |nil=>rfl
 |cons p r ih=>
  obtain⟨i,x⟩:=p
  simp only[List.cons_append,zh]
  cases hb:Nat.beq i b with
  |true=>rfl
  |false=>simpa using ih
theorem Step.hr {N N' : zm} {S:Nat->Prop} {w w' : World} {δ h:zg} (s:Step N S w N' w' δ) (hnr:NR N S w) (hh:HR N S w h):HR N' S w' (δ++h):=by
 intro b x hx
 rw[zR]at hx
 cases hd:zh δ b with
 |some y=>
  rw[hd]at hx
  exact s.has b x (by rw[hd];exact hx)
 |none=>
  rw[hd]at hx
  have hnd:¬dom δ b:=by simp[dom,hd]
  refine(hh b x hx).keep s.oo s.nx (s.same b hnd) (fun r hr=>?_) fun T hT=>s.ext.toD.mono fun k _ hc=>⟨.inl (zhe hc),fun hy=>?_⟩
  ·refine s.ext.block r.blk (hnr.lt b r hr).1 ?_
   rintro⟨b',hd',hr'⟩
   have:=hnr.inj' b' b r.blk hr' (NS.has_live hr)
   subst this
   exact hnd hd'
  ·obtain⟨b',hd',hr'⟩:=hc
   have:=hnr.inj' b' b k hr' (by rw[hT];exact hy)
   subst this
   exact hnd hd'
theorem Step.nop {N:zm} {S:Nat->Prop} {w:World} (h:NR N S w):Step N S w N w []:=
 ⟨.refl _ _,h,.refl _ _,fun _ _=>rfl,fun b x hx=>by cases hx⟩
def zpc:Value->DV->Bool
 |.bool a,.lit (.bool b)=>a==b
 |.int k a,.lit (.int k' b)=>decide (k=k')&&(a==b)
 |.slice none 0 0,.lit (.slice none 0 0)=>true
 |.nilFunc,.lit .nilFunc=>true
 |.pointer none,.lit (.pointer none)=>true
 |.map none,.lit (.map none)=>true
 |.nilIface,.lit .nilIface=>true
 |_,_=>false
theorem zrK {v:Value} {d:DV} (h:zpc v d=true):d = .lit v/\v.oneCell' = true:=by
 unfold zpc at h
 split at h
 all_goals first|(exact⟨rfl,rfl⟩)|(simp at h;done)|skip
 ·simp at h;subst h;exact⟨rfl,rfl⟩
 ·simp at h;obtain⟨rfl,rfl⟩:=h;exact⟨rfl,rfl⟩
def zfk:List Value->List DV->Bool
 |[],[]=>true
 |v::vs,d::ds=>zpc v d&&zfk vs ds
 |_,_=>false
theorem zkF:∀ {vs:List Value} {ds:List DV},zfk vs ds=true->ds=vs.map .lit/\∀v∈vs,v.oneCell' = true
 |[],[],_=>⟨rfl,by simp⟩
 |[],_::_,h=>by simp[zfk]at h
 |_::_,[],h=>by simp[zfk]at h
 |v::vs,d::ds,h=>by
  simp only[zfk,Bool.and_eq_true]at h
  obtain⟨rfl,h1⟩:=zrK h.1
  obtain⟨rfl,h2⟩:=zkF h.2
  exact⟨rfl,by intro x hx;rcases List.mem_cons.1 hx with rfl|hx;exact h1;exact h2 x hx⟩
def zbT (d:TypeDesc) (k:TK):Bool:=
 match d,k with
 |.bool,.bool=>true
 |.int a,.int b=>decide (a=b)
 |.slice e,.slc e'=>Nat.beq e e'
 |.map k e,.mp k' e'=>Nat.beq k k'&&Nat.beq e e'
 |.array n e,.arr n' e'=>Nat.beq n n'&&Nat.beq e e'
 |.struct fs,.st l=>decide (fs.toList.map (fun f=>(f.offset,f.type))=l)
 |.pointer _,.other|.func _ _ _,.other|.string,.other|.interface _,.other=>true
 |_,_=>false
structure TyOk (P:Program) (t:Nat) (i:TI):Prop where
 info:∃j z,P.info? t=some j/\j.size=i.size/\j.bytes=i.bytes/\j.zero=some z/\i.zero=z.cells.toList.map .lit/\(∀v∈z.cells.toList,v.oneCell' = true)/\z.cells.size=i.size /\
  (i.isAgg=true->∃cs,z = .agg cs)/\(i.isAgg=false->z.oneCell' = true)
 und:∃d,P.underlying t=some d/\zbT d i.k=true
 ek:∀k,i.ek=some k->k.size=i.size/\i.bytes<=1024
 eqf:i.eqf=true->∀(w:World) (xs ys:List CV) (vs us:Array Value) (b:Bool) (N:zm) (S:Nat->Prop),zdY xs ys=some b->RepCL N S w xs vs.toList->RepCL N S w ys us.toList->ziK i.zero xs=true ->
  (Op.equal t (.agg vs) (.agg us)).run P w = .ok b w/\P.eqGuardType P.depth t=false
def zja (P : Program) (p : Nat × TI) : Bool :=
  match P.info? p.1, P.underlying p.1 with
  | some j, some d =>
    Nat.beq j.size p.2.size && Nat.beq j.bytes p.2.bytes && zbT d p.2.k && (p.2.ok && (match p.2.ek with | some k => Nat.beq k.size p.2.size && Nat.ble p.2.bytes 1024 | none => true)) &&
    (match j.zero with
     | some z => zfk z.cells.toList p.2.zero && Nat.beq z.cells.size p.2.size && (match z with | .agg _ => p.2.isAgg | v => !p.2.isAgg && v.oneCell')
     | none => false)
  | _, _ => false
structure TyOk0 (P:Program) (t:Nat) (i:TI):Prop where
 info:∃j z,P.info? t=some j/\j.size=i.size/\j.bytes=i.bytes/\j.zero=some z/\i.zero=z.cells.toList.map .lit/\(∀v∈z.cells.toList,v.oneCell' = true)/\z.cells.size=i.size /\
  (i.isAgg=true->∃cs,z = .agg cs)/\(i.isAgg=false->z.oneCell' = true)
 und:∃d,P.underlying t=some d/\zbT d i.k=true
 ek:∀k,i.ek=some k->k.size=i.size/\i.bytes<=1024
theorem ztp {P:Program} {p:Nat×TI} (h:zja P p=true):TyOk0 P p.1 p.2:=by
 unfold zja at h
 split at h
 ·rename_i j d hj hd
  simp only[Bool.and_eq_true]at h
  obtain⟨⟨⟨⟨h1,h2⟩,h3⟩,h4⟩,h5⟩:=h
  split at h5
  ·rename_i z hz
   simp only[Bool.and_eq_true]at h5
   obtain⟨⟨h6,h7⟩,h8⟩:=h5
   obtain⟨e1,e2⟩:=zkF h6
   refine⟨⟨j,z,hj,Nat.eq_of_beq_eq_true h1,Nat.eq_of_beq_eq_true h2,hz,e1,e2,Nat.eq_of_beq_eq_true h7,?_,?_⟩,⟨d,hd,h3⟩,?_⟩
   ·intro ha
    split at h8
    ·exact⟨_,rfl⟩
    ·simp[ha]at h8
   ·intro ha
    split at h8
    ·simp[ha]at h8
    ·simp at h8;exact h8.2
   ·intro k hk
    have:=h4.2
    rw[hk]at this
    simp only[Bool.and_eq_true]at this
    exact⟨Nat.eq_of_beq_eq_true this.1,Nat.le_of_ble_eq_true this.2⟩
  ·cases h5
 ·cases h
structure XOk (X:Ctx):Prop where
 ty:∀t,(X.ty t).ok=true->TyOk X.P t (X.ty t)
 mix:X.P.follows .mixedOrders=true
 kind:∀t,(X.ty t).ok=false->(X.ty t).k = .other/\(X.ty t).size=0/\(X.ty t).ek=none
theorem zbt {X:Ctx} (hX:XOk X) {t:Nat} (h:(X.ty t).ok=true) (w:World):(sizeOf t).run X.P w = .ok (X.ty t).size w:=by
 obtain⟨j,z,hj,hs,_⟩:=(hX.ty t h).info
 simp[sizeOf,typeInfo,hj,hs]
theorem zh8 {X:Ctx} (hX:XOk X) {t:Nat} (h:(X.ty t).ok=true):∃d,X.P.underlying t=some d/\zbT d (X.ty t).k=true:=(hX.ty t h).und
theorem zb4 {X:Ctx} (hX:XOk X) {t:Nat} (h:(X.ty t).k≠.other):(X.ty t).ok=true:=by
 cases hk:(X.ty t).ok with
 |true=>rfl
 |false=>exact absurd (hX.kind t hk).1 h
theorem zaX {X:Ctx} (hX:XOk X) {t e:Nat} (h:(X.ty t).k = .slc e):X.P.underlying t=some (.slice e):=by
 obtain⟨d,hd,hk⟩:=zh8 hX (zb4 hX (t:=t) (by rw[h];simp))
 rw[h]at hk
 cases d<;>simp[zbT]at hk
 rw[hd,hk]
theorem zhx {X:Ctx} (hX:XOk X) {t n e:Nat} (h:(X.ty t).k = .arr n e):X.P.underlying t=some (.array n e):=by
 obtain⟨d,hd,hk⟩:=zh8 hX (zb4 hX (t:=t) (by rw[h];simp))
 rw[h]at hk
 cases d<;>simp[zbT]at hk
 rw[hd,hk.1,hk.2]
theorem zj3 {X:Ctx} (hX:XOk X) {t:Nat} {fs:List (Nat×Nat)} (h:(X.ty t).k = .st fs):∃g:Array Field,X.P.underlying t=some (.struct g)/\g.toList.map (fun f=>(f.offset,f.type))=fs:=by
 obtain⟨d,hd,hk⟩:=zh8 hX (zb4 hX (t:=t) (by rw[h];simp))
 rw[h]at hk
 cases d<;>simp[zbT]at hk
 exact⟨_,hd,hk⟩
theorem zv5 {X:Ctx} (hX:XOk X) {t:Nat} (h:(X.ty t).k = .bool):X.P.underlying t=some .bool:=by
 obtain⟨d,hd,hk⟩:=zh8 hX (zb4 hX (t:=t) (by rw[h];simp))
 rw[h]at hk
 cases d<;>simp[zbT]at hk
 rw[hd]
theorem ze4 {X:Ctx} (hX:XOk X) {t:Nat} {k:IntKind} (h:(X.ty t).k = .int k):X.P.underlying t=some (.int k):=by
 obtain⟨d,hd,hk⟩:=zh8 hX (zb4 hX (t:=t) (by rw[h];simp))
 rw[h]at hk
 cases d<;>simp[zbT]at hk
 rw[hd,hk]
theorem zn9 {X:Ctx} (hX:XOk X) {t:Nat} (h:(X.ty t).ok=true) (w:World):(isAgg t).run X.P w = .ok (X.ty t).isAgg w:=by
 obtain⟨d,hd,hk⟩:=zh8 hX h
 simp only[isAgg,Sem.run_bind,run_underlying hd,Result.andThen_ok]
 cases d<;>cases hkk:(X.ty t).k<;>simp_all [zbT,TI.isAgg]
def zcQ (P:Program) (N:zm) (S:Nat->Prop) (w:World) (s:Sem Next) (tv:TV) (δ:zg):Prop:=
 ∃v w' N',(s.run P w = .ok (.value v) w'\/(s.run P w = .ok .skip w'/\v=undef))/\RepT N' S w' tv v/\Step N S w N' w' δ
def zfP (P:Program) (f:Nat):Prop:=∃fn,P.funcs[f]? = some fn/\(fn.name=="runtime.NumGoroutine")=false/\fn.body.isNone=false
def zbn (N:zm) (S:Nat->Prop) (w:World) (xs:List TV) (vs:List Value):Prop:=
 xs.length=vs.length/\∀(i:Nat) (x:TV) (v:Value),xs[i]? = some x->vs[i]? = some v->RepT N S w x v
def ER.Sound (P:Program) (N:zm) (S:Nat->Prop) (w:World) (s:Sem Next):ER->Prop
 |.ok tv δ=>zcQ P N S w s tv δ
 |.ob p tv δ=>p->zcQ P N S w s tv δ
 |.dem p=>∃b,p b/\s.run P w = .ok (.value (.bool b)) w
 |.call f args post=>zfP P f->∃vs,s.run P w = .ok (.enter f vs.toArray) w/\zbn N S w (args++post) vs
 |.yld l args=>∃vs:List Value,s.run P w=(Instr.yield l vs.toArray).run P w/\zbn N S w args vs
 |.bad=>True
section
variable {X:Ctx} {N:zm} {S:Nat->Prop} {w:World}
theorem zj {P:Program} (hnr:NR N S w) {s:Sem Next} {tv:TV} {v:Value} (h:s.run P w = .ok (.value v) w) (hr:RepT N S w tv v):zcQ P N S w s tv []:=
 ⟨v,w,N,.inl h,hr,.nop hnr⟩
theorem zdK {x:DV} {v:Value} (h:RepT N S w (.c (.d x)) v):Rep (OO N S) w x v:=by
 cases h with|c _ _ h=>cases h with|d _ _ h=>exact h
theorem za9 {u v:Value} (h:RepC N S w (.d (.lit u)) v):v=u/\v.oneCell' = true:=by
 cases h with|d _ _ h=>cases h with|lit _ h=>exact⟨rfl,h⟩
theorem zI {u v:Value} (h:RepT N S w (.c (.d (.lit u))) v):v=u:=by
 cases h with|c _ _ h=>exact(za9 h).1
theorem zV {v:Value} (h:v.oneCell' = true):RepT N S w (.c (.d (.lit v))) v:=.c _ _ (.d _ _ (.lit v h))
def GOk (X:Ctx) (O:Nat->Prop) (w:World):Prop:=∀g xs,look none (X.gl.map fun(i,x)=>(i,some x)) g=some xs->Rep O w (.rp xs) (.pointer (some ⟨g,0,none⟩))
theorem zjc {a:Act} {lk:Nat->TV} (hlk:∀t,RepT N S w (lk t) (a.eval (.tmp t))) (hg:GOk X (OO N S) w) (o:Operand):RepT N S w (X.opd lk o) (a.eval o):=by
 cases o with
 |tmp t=>exact hlk t
 |const v=>
  cases v with
  |agg c=>exact .any _
  |tuple c=>exact .any _
  |_=>exact zV rfl
 |global g=>
  simp only[Ctx.opd,Act.eval]
  split
  ·rename_i xs hx
   exact .c _ _ (.d _ _ (hg g xs hx))
  ·exact .any _
 |func f=>exact .c _ _ (.d _ _ (.fn f [] [] #[] #[] rfl rfl (by intro i x v h;simp at h) (by intro i x v h;simp at h)))
theorem zlc {P:Program} {a:Act} {o:Oper} {op:BinOp} {t u:Nat} {x y:Operand} (ho:o.op = .binOp op t x y u) :
  (execOp a.eval o).run P w=(((do eqGuard op t x y (a.eval x) (a.eval y);binOp op t (a.eval x) (a.eval y):Sem Value)).run P w).andThen fun v w'=>.ok (.value v) w':=by
 unfold execOp
 rw[ho]
 simp only[Sem.run_bind,Sem.run_pure]
theorem zsv {P:Program} (hnr:NR N S w) {a:Act} {o:Oper} {op:BinOp} {t u:Nat} {x y:Operand} (ho:o.op = .binOp op t x y u) {k:IntKind} {i j:Int}
  (hx:a.eval x = .int k i) (hy:a.eval y = .int k j):(zyL op k i j).Sound P N S w (execOp a.eval o):=by
 have hr:=zlc (P:=P) (w:=w) (a:=a) ho
 rw[hx,hy]at hr
 cases op<;>simp only[zyL,ER.Sound]
 case add=>exact zj hnr (by rw[hr];simp[eqGuard_at_int,binOp_add,Op.intArith]) (zV rfl)
 case sub=>exact zj hnr (by rw[hr];simp[eqGuard_at_int,binOp_sub,Op.intArith]) (zV rfl)
 case mul=>exact zj hnr (by rw[hr];simp[eqGuard_at_int,binOp_mul,Op.intArith]) (zV rfl)
 case quo=>exact fun h=>zj hnr (by rw[hr];simp[eqGuard_at_int,binOp_quo,Op.intDiv,h]) (zV rfl)
 case rem=>exact fun h=>zj hnr (by rw[hr];simp[eqGuard_at_int,binOp_rem,Op.intDiv,h]) (zV rfl)
 case and=>exact zj hnr (by rw[hr];simp[eqGuard_at_int,binOp_and,Op.intBits]) (zV rfl)
 case or=>exact zj hnr (by rw[hr];simp[eqGuard_at_int,binOp_or,Op.intBits]) (zV rfl)
 case xor=>exact zj hnr (by rw[hr];simp[eqGuard_at_int,binOp_xor,Op.intBits]) (zV rfl)
 case andNot=>exact zj hnr (by rw[hr];simp[eqGuard_at_int,binOp_andNot,Op.intBits]) (zV rfl)
 case eql=>exact zj hnr (by rw[hr];simp[eqGuard_at_int,binOp_eql]) (zV rfl)
 case neq=>exact zj hnr (by rw[hr];simp[eqGuard_at_int,binOp_neq]) (zV rfl)
 case lss=>exact zj hnr (by rw[hr];simp[eqGuard_at_int,binOp_lss]) (zV rfl)
 case leq=>exact zj hnr (by rw[hr];simp[eqGuard_at_int,binOp_leq]) (zV rfl)
 case gtr=>exact zj hnr (by rw[hr];simp[eqGuard_at_int,binOp_gtr]) (zV rfl)
 case geq=>exact zj hnr (by rw[hr];simp[eqGuard_at_int,binOp_geq]) (zV rfl)
theorem zjA {P:Program} (hnr:NR N S w) {a:Act} {o:Oper} {op:BinOp} {t u:Nat} {x y:Operand} (ho:o.op = .binOp op t x y u) {k k' : IntKind} {i j:Int}
  (hx:a.eval x = .int k i) (hy:a.eval y = .int k' j):(zsA op k i j).Sound P N S w (execOp a.eval o):=by
 have hr:=zlc (P:=P) (w:=w) (a:=a) ho
 rw[hx,hy]at hr
 cases op<;>simp only[zsA,ER.Sound]
 case shl=>exact fun h=>zj hnr (by rw[hr];simp[eqGuard_at_int,binOp_shl,Op.shift,Int.not_lt.2 h]) (zV rfl)
 case shr=>exact fun h=>zj hnr (by rw[hr];simp[eqGuard_at_int,binOp_shr,Op.shift,Int.not_lt.2 h]) (zV rfl)
end
theorem EK.enc_length (k:EK) (x:k.T):(k.enc x).length=k.size:=by cases k<;>rfl
theorem za1 (k:EK) (l:List k.T):(l.flatMap k.enc).length=l.length*k.size:=by
 induction l with
 |nil=>simp
 |cons x r ih=>simp only[List.flatMap_cons,List.length_append,EK.enc_length,ih,List.length_cons];rw[Nat.add_mul];omega
theorem ziM (k:EK):∀(l:List k.T) (i j:Nat),i<l.length->j<k.size->(l.flatMap k.enc)[i*k.size+j]? = (k.enc (l.getD i default))[j]?
 |[],i,j,h,_=>by simp at h
 |x::r,0,j,_,hj=>by
  simp only[List.flatMap_cons,Nat.zero_mul,Nat.zero_add,List.getD_cons_zero]
  rw[List.getElem?_append_left (by rw[EK.enc_length];exact hj)]
 |x::r,i+1,j,h,hj=>by
  have ih:=ziM k r i j (by simpa using h) hj
  simp only[List.flatMap_cons,List.getD_cons_succ]
  rw[List.getElem?_append_right (by rw[EK.enc_length,Nat.add_mul];omega),EK.enc_length,←ih]
  congr 1
  rw[Nat.add_mul]
  omega
section
variable {X:Ctx} {N:zm} {S:Nat->Prop} {w:World}
theorem zj1 {tv:TV} {v:Value} {cs:List CV} (h:RepT N S w tv v) (hc:tv.cells=some cs):RepCL N S w cs v.cells.toList:=by
 cases h with
 |c x v h=>
  simp only[TV.cells,Option.some.injEq]at hc
  subst hc
  have h1:=h.one
  have:v.cells = #[v]:=by cases v<;>first|rfl|simp[Value.oneCell']at h1
  rw[this]
  refine⟨rfl,fun i x' v' hx hv=>?_⟩
  cases i with
  |zero=>simp at hx hv;subst hx hv;exact h
  |succ i=>simp at hx
 |agg xs vs h=>simp only[TV.cells,Option.some.injEq]at hc;subst hc;exact h
 |tup xs vs hl h=>simp[TV.cells]at hc
 |any v=>simp[TV.cells]at hc
theorem zbY {xs:List CV} {vs:List Value} (n:Nat) (h:RepCL N S w xs vs):RepCL N S w (xs.drop n) (vs.drop n):=
 ⟨by simp[h.1],fun i x v hx hv=>h.2 (n+i) x v (by simpa using hx) (by simpa using hv)⟩
theorem zcz {xs:List CV} {vs:List Value} (n:Nat) (h:RepCL N S w xs vs):RepCL N S w (xs.take n) (vs.take n):=by
 refine⟨by simp[h.1],fun i x v hx hv=>?_⟩
 rw[List.getElem?_take]at hx hv
 split at hx
 ·rename_i hi
  rw[if_pos hi]at hv
  exact h.2 i x v hx hv
 ·cases hx
theorem zfX {xs ys:List CV} {vs us:List Value} (h:RepCL N S w xs vs) (h' : RepCL N S w ys us):RepCL N S w (xs++ys) (vs++us):=by
 refine⟨by simp[h.1,h'.1],fun i x v hx hv=>?_⟩
 rcases Nat.lt_or_ge i xs.length with hi|hi
 ·rw[List.getElem?_append_left hi]at hx
  rw[List.getElem?_append_left (h.1▸hi)]at hv
  exact h.2 i x v hx hv
 ·rw[List.getElem?_append_right hi]at hx
  rw[List.getElem?_append_right (h.1▸hi)]at hv
  exact h'.2 _ x v hx (h.1▸hv)
theorem zc7 {xs:List DV} {vs:List Value} (h:RepL (OO N S) w xs vs):RepCL N S w (xs.map .d) vs:=by
 refine⟨by simp[h.1],fun i x v hx hv=>?_⟩
 simp only[List.getElem?_map,Option.map_eq_some_iff]at hx
 obtain⟨y,hy,rfl⟩:=hx
 exact .d _ _ (h.2 i y v hy hv)
theorem zdb {O:Nat->Prop} {xs:List DV} {vs:List Value} (n:Nat) (h:RepL O w xs vs):RepL O w (xs.drop n) (vs.drop n):=
 ⟨by simp[h.1],fun i x v hx hv=>h.2 (n+i) x v (by simpa using hx) (by simpa using hv)⟩
theorem zbK {O:Nat->Prop} {xs:List DV} {vs:List Value} (n:Nat) (h:RepL O w xs vs):RepL O w (xs.take n) (vs.take n):=by
 refine⟨by simp[h.1],fun i x v hx hv=>?_⟩
 rw[List.getElem?_take]at hx hv
 split at hx
 ·rename_i hi
  rw[if_pos hi]at hv
  exact h.2 i x v hx hv
 ·cases hx
theorem za2 {O:Nat->Prop} {xs ys:List DV} {vs us:List Value} (h:RepL O w xs vs) (h' : RepL O w ys us):RepL O w (xs++ys) (vs++us):=by
 refine⟨by simp[h.1,h'.1],fun i x v hx hv=>?_⟩
 rcases Nat.lt_or_ge i xs.length with hi|hi
 ·rw[List.getElem?_append_left hi]at hx
  rw[List.getElem?_append_left (h.1▸hi)]at hv
  exact h.2 i x v hx hv
 ·rw[List.getElem?_append_right hi]at hx
  rw[List.getElem?_append_right (h.1▸hi)]at hv
  exact h'.2 _ x v hx (h.1▸hv)
theorem zkc {O:Nat->Prop} (k:EK) (l:List k.T) (vs:List Value) (h:RepL O w (l.flatMap k.enc) vs) (i:Nat) (hi:i<l.length):RepL O w (k.enc (l.getD i default)) ((vs.drop (i*k.size)).take k.size):=by
 have hlen:vs.length=l.length*k.size:=by rw[←h.1,za1]
 have hle:i*k.size+k.size<=l.length*k.size:=by rw[←Nat.succ_mul];exact Nat.mul_le_mul_right _ hi
 refine⟨by simp[EK.enc_length];omega,fun j x v hx hv=>?_⟩
 have hj:j<k.size:=by
  rcases Nat.lt_or_ge j k.size with h' | h'
  ·exact h'
  ·rw[List.getElem?_eq_none (by rw[EK.enc_length];exact h')]at hx;cases hx
 rw[List.getElem?_take,if_pos hj,List.getElem?_drop]at hv
 exact h.2 _ x v (by rw[ziM k l i j hi hj];exact hx) hv
def zh5 (agg:Bool) (vs:List Value):Value:=
 match agg,vs with
 |true,vs=>.agg vs.toArray
 |false,v::_=>v
 |false,[]=>undef
theorem ze0 {agg:Bool} {cs:List CV} {vs:List Value} (h:RepCL N S w cs vs):RepT N S w (zjh agg cs) (zh5 agg vs):=by
 cases agg with
 |true=>exact .agg _ _ (by simpa using h)
 |false=>
  match cs,vs,h with
  |[x],[v],h=>exact .c _ _ (h.2 0 x v rfl rfl)
  |[],_,_=>exact .any _
  |_::_::_,_,_=>exact .any _
  |[x],[],h=>exact absurd h.1 (by simp)
  |[x],_::_::_,h=>exact absurd h.1 (by simp)
theorem zan {g:Nat} {cur:Array Value} {T:TypeId} {fr:Nat×Nat} (hg:w.heap[g]? = some (.cells cur T fr)) (o:Nat) (vs:List Value)
  (h:∀j v,vs[j]? = some v->cur[o+j]? = some v):zdX w ⟨g,o,none⟩ vs:=fun j v hv=>by
 simp only[World.cell?,hg]
 simpa using h j v hv
theorem zkq {hX:XOk X} {t:Nat} (ht:(X.ty t).ok=true) (a:Addr) (ha:a.spot=none) (vs:List Value) (hl:vs.length=(X.ty t).size) (h:zdX w a vs) (hsz:(X.ty t).isAgg=false->(X.ty t).size=1) :
  (loadVar t a).run X.P w = .ok (zh5 (X.ty t).isAgg vs) w:=by
 have hadd:∀j,a.add j=⟨a.block,a.off+j,none⟩:=by
  intro j
  cases a with|mk b o s=>simp at ha;subst ha;exact Addr.add_lit b o j
 simp only[loadVar,Sem.run_bind,zn9 hX ht,Result.andThen_ok]
 cases hag:(X.ty t).isAgg with
 |true=>
  simp only[if_true,Sem.run_bind,zbt hX ht,Result.andThen_ok]
  rw[←hl,run_loadCells_list w a vs (fun j v hv=>by rw[hadd];exact h j v hv)]
  rfl
 |false=>
  have h1:=hsz hag
  match vs,hl with
  |[v],_=>
   have:=h 0 v rfl
   have e:w.cell? a=some v:=by rw[←this];cases a with|mk b o s=>simp at ha;subst ha;rfl
   simp[run_load,e,zh5]
  |[],hl=>rw[h1]at hl;cases hl
  |_::_::_,hl=>rw[h1]at hl;simp at hl
theorem zmo {X:Ctx} (hX:XOk X) {t:Nat} (ht:(X.ty t).ok=true) (ha:(X.ty t).isAgg=false):(X.ty t).size=1:=by
 obtain⟨j,z,_,_,_,_,_,_,h1,_,h3⟩:=(hX.ty t ht).info
 have:=h3 ha
 rw[←h1]
 cases z<;>first|rfl|(simp[Value.oneCell']at this)
theorem zlS {h:zg} {sz:Nat} {p:CV} {v:Value} {cs:List CV} (hh:HR N S w h) (hp:RepC N S w p v) (hr:zoZ h sz p=some cs) (hl:cs.length=sz)
  (hob:∀q,ziB h p=some q->q):∃a vs,v = .pointer (some a)/\a.spot=none/\zdX w a vs/\RepCL N S w cs vs:=by
 cases p with
 |ptr b i off=>
  simp only[zoZ]at hr
  cases hb:zh h b with
  |none=>rw[hb]at hr;cases hr
  |some x=>
   rw[hb]at hr
   have hbr:=hh b x hb
   cases x with
   |vars us=>
    cases i with
    |succ i=>simp at hr
    |zero=>
     simp only[Option.some.injEq]at hr
     subst hr
     obtain⟨r,ws,T,h1,h2,h3⟩:=hbr
     cases hp with
     |ptrD _ _ _ _ hd _=>rw[h1]at hd;cases hd
     |ptr _ _ _ r' h'=>
      rw[h1]at h'
      cases h'
      refine⟨⟨r.blk,0*r.esz+off,none⟩,((ws.toList.drop off).take sz),rfl,rfl,?_,zcz sz (zbY off h3)⟩
      rw[Nat.zero_mul,Nat.zero_add]
      refine zan h2 off _ fun j v hv=>?_
      rw[List.getElem?_take]at hv
      split at hv
      ·simpa using hv
      ·cases hv
   |data k l=>
    simp only[Option.some.injEq]at hr
    subst hr
    have hi:i<l.length:=hob _ (by simp[ziB,hb])
    obtain⟨hm,hbr⟩:=hbr
    rcases hbr with⟨h1,h2⟩|⟨r,ws,T,h1,h2,h3,h4,h5,h6,h7⟩
    ·subst h2;simp at hi
    ·cases hp with
     |ptrD _ _ _ _ hd _=>rw[h1]at hd;cases hd
     |ptr _ _ _ r' h'=>
      rw[h1]at h'
      cases h'
      have he:=zkc k l _ h7 i hi
      have hle:i*k.size+k.size<=l.length*k.size:=by rw[←Nat.succ_mul];exact Nat.mul_le_mul_right _ hi
      refine⟨⟨r.blk,i*r.esz+off,none⟩,(((((ws.toList.take (l.length*k.size)).drop (i*k.size)).take k.size).drop off).take sz),rfl,rfl,?_,?_⟩
      ·rw[h2]
       refine zan h5 _ _ fun j v hv=>?_
       rw[List.getElem?_take]at hv
       split at hv
       ·rw[List.getElem?_drop,List.getElem?_take]at hv
        split at hv
        ·rw[List.getElem?_drop,List.getElem?_take]at hv
         split at hv
         ·rw[Nat.add_assoc];simpa using hv
         ·cases hv
        ·cases hv
       ·cases hv
      ·exact zc7 (zbK sz (zdb off he))
   |hole k l i0 off0 b0=>
    cases hq:(Nat.beq off off0&&Nat.beq sz 1) with
    |false=>simp only[hq,cond_false]at hr;cases hr
    |true=>
     simp only[hq,cond_true,Option.some.injEq]at hr
     simp only[Bool.and_eq_true]at hq
     have e1:=Nat.eq_of_beq_eq_true hq.1
     subst hr e1
     have e0:i=i0:=hob _ (by simp[ziB,hb])
     subst e0
     obtain⟨hm,hi,ho,r,ws,T,h1,h2,h3,h4,h5,h6,h7⟩:=hbr
     cases hp with
     |ptrD _ _ _ _ hd _=>rw[h1]at hd;cases hd
     |ptr _ _ _ r' h'=>
      rw[h1]at h'
      cases h'
      have hlt:i*k.size+off<(hcells k l i off b0).length:=by
       unfold hcells
       rw[List.length_set,List.length_map,za1]
       have:i*k.size+k.size<=l.length*k.size:=by rw[←Nat.succ_mul];exact Nat.mul_le_mul_right _ hi
       omega
      have hcell:(hcells k l i off b0)[i*k.size+off]? = some (.own b0):=by
       have hl:=hlt
       unfold hcells at hl ⊢
       rw[List.length_set]at hl
       rw[List.getElem?_set,if_pos rfl,if_pos hl]
      have hlt2:i*k.size+off<(ws.toList.take (l.length*k.size)).length:=h7.1▸hlt
      obtain⟨v,hv⟩:∃v,(ws.toList.take (l.length*k.size))[i*k.size+off]? = some v:=⟨_,List.getElem?_eq_getElem hlt2⟩
      have hr:=h7.2 _ _ _ hcell hv
      refine⟨⟨r.blk,i*r.esz+off,none⟩,[v],rfl,rfl,?_,⟨rfl,fun j x u hx hu=>by cases j with|zero=>(cases hx;cases hu;exact hr)|succ j=>cases hx⟩⟩
      rw[h2]
      refine zan h5 _ _ fun j u hu=>?_
      have hj:j=0:=by
       have:=(List.getElem?_eq_some_iff.1 hu).1
       simp at this;omega
      subst hj
      rw[List.getElem?_take]at hv
      split at hv
      ·simp at hu
       subst hu
       simpa using hv
      ·cases hv
   |dead=>cases hr
   |map l=>cases hr
   |ghost P l r=>cases hr
 |d x=>
  cases x with
  |rp xs=>
   simp only[zoZ,Option.some.injEq]at hr
   subst hr
   cases hp with|d _ _ hp=>
   cases hp with|rp _ a vs ho hs hl' hr' hw=>
   exact⟨a,vs.take sz,rfl,hs,fun j v hv=>hw j v (by rw[List.getElem?_take]at hv;split at hv;exact hv;cases hv),zc7 (zbK sz ⟨hl',hr'⟩)⟩
  |_=>cases hr
 |_=>cases hr
theorem zqI (hX:XOk X) (hnr:NR N S w) {h:zg} (hh:HR N S w h) {a:Act} {o:Oper} {t:Nat} {x:Operand} (ho:o.op = .load t x) {p:TV} (hp:RepT N S w p (a.eval x)) :
  (zno X h t p).Sound X.P N S w (execOp a.eval o):=by
 have hexec:(execOp a.eval o).run X.P w=((Instr.loadAt t (a.eval x)).run X.P w).andThen fun v w'=>.ok (.value v) w':=by
  unfold execOp;rw[ho];simp
 unfold zno
 split
 ·rename_i p
  split
  ·rename_i cs hr
   cases hc:((X.ty t).ok&&Nat.beq cs.length (X.ty t).size) with
   |false=>trivial
   |true=>
    simp only[Bool.and_eq_true]at hc
    have hl:=Nat.eq_of_beq_eq_true hc.2
    simp only[cond_true]
    have hp' : RepC N S w p (a.eval x):=by cases hp with|c _ _ h=>exact h
    have main:(∀q,ziB h p=some q->q)->zcQ X.P N S w (execOp a.eval o) (zjh (X.ty t).isAgg cs) []:=by
     intro hob
     obtain⟨ad,vs,hv,hs,hca,hrep⟩:=zlS hh hp' hr hl hob
     refine zj hnr ?_ (ze0 hrep)
     rw[hexec,hv]
     simp only[Instr.loadAt,Instr.sureAddr,Sem.run_bind,Sem.run_pure,Result.andThen_ok]
     rw[zkq (hX:=hX) hc.1 ad hs vs (by rw[←hrep.1];exact hl) hca (zmo hX hc.1)]
     rfl
    cases hro:ziB h p with
    |none=>exact main (by rw[hro];simp)
    |some q=>exact fun hq=>main (by rw[hro];intro q' e;cases e;exact hq)
  ·trivial
 ·trivial
end
section
variable {X:Ctx} {N:zm} {S:Nat->Prop} {w:World}
theorem zcg {α:Type}:∀(l:List α) (i:Nat),zba l i=l[i]?
 |[],i=>by simp[zba]
 |x::r,0=>by simp[zba]
 |x::r,i+1=>by simp[zba,zcg r i]
theorem zdR {P:Program} {s:Sem Value} {v:Value} {w w' : World} (h:s.run P w = .ok v w'):(do let x ←s;pure (Next.value x):Sem Next).run P w = .ok (.value v) w':=by
 simp[h]
theorem zeS (b o n:Nat):(⟨b,o,none⟩:Addr).add n=⟨b,o+n,none⟩:=Addr.add_lit b o n
theorem zgz {a:Addr} (h:a.spot=none) (n:Nat):a.add n=⟨a.block,a.off+n,none⟩:=by
 cases a with|mk b o s=>simp at h;subst h;exact Addr.add_lit b o n
theorem zmY {g:Array Field} {fs:List (Nat×Nat)} (hg:g.toList.map (fun f=>(f.offset,f.type))=fs) {i o u:Nat} (h:zba fs i=some (o,u)) :
  ∃f,g[i]? = some f/\f.offset=o/\f.type=u:=by
 rw[zcg,←hg]at h
 simp only[List.getElem?_map,Option.map_eq_some_iff]at h
 obtain⟨f,hf,he⟩:=h
 simp only[Prod.mk.injEq]at he
 exact⟨f,by simpa using hf,he.1,he.2⟩
theorem zhM (hX:XOk X) {u n:Nat} (h:(X.ty u).size=n+1):(X.ty u).ok=true:=by
 cases hok:(X.ty u).ok with
 |true=>rfl
 |false=>have:=(hX.kind u hok).2.1;rw[h]at this;cases this
theorem zmd {h:zg} (hh:HR N S w h) {b:Nat} (ha:zky h b=true):N b≠.dead:=by
 unfold zky at ha
 split at ha
 ·rename_i cs hb
  obtain⟨r,_,_,h1,_⟩:=hh b _ hb
  rw[h1];simp
 ·rename_i k l hb
  obtain⟨_,⟨h1,_⟩|⟨r,_,_,h1,_⟩⟩:=hh b _ hb
  ·rw[h1];simp
  ·rw[h1];simp
 ·rename_i k l i off b' hb
  obtain⟨_,_,_,r,_,_,h1,_⟩:=hh b _ hb
  rw[h1];simp
 ·cases ha
theorem zcp {b i off:Nat} {v:Value} (h:RepC N S w (.ptr b i off) v) (hd:N b≠.dead):∃r,N b = .live r/\v = .pointer (some ⟨r.blk,i*r.esz+off,none⟩):=by
 cases h with
 |ptr _ _ _ r hr=>exact⟨r,hr,rfl⟩
 |ptrD _ _ _ _ h _=>exact absurd h hd
theorem zhZ {O:Nat->Prop} {xs:List DV} {a:Addr} {vs:List Value} (ho:vs≠[]->¬O a.block) (hs:a.spot=none) (hl:xs.length=vs.length)
  (hr:∀(i:Nat) (x:DV) (v:Value),xs[i]? = some x->vs[i]? = some v->Rep O w x v) (hw:zdX w a vs) (n:Nat):Rep O w (.rp (xs.drop n)) (.pointer (some (a.add n))):=by
 rw[zgz hs]
 have h:=zdb n (⟨hl,hr⟩:RepL O w xs vs)
 refine .rp _ _ (vs.drop n) (fun hne=>ho (by intro e;subst e;simp at hne)) rfl h.1 h.2 fun j v hv=>?_
 have:=hw (n+j) v (by simpa using hv)
 rw[←Nat.add_assoc]at this
 exact this
theorem zkk (hX:XOk X) (hnr:NR N S w) {h:zg} (hh:HR N S w h) {a:Act} {o:Oper} {t:Nat} {x:Operand} {f:Nat} (ho:o.op = .fieldAddr t x f) {p:TV} (hp:RepT N S w p (a.eval x)) :
  (zh6 X h t p f).Sound X.P N S w (execOp a.eval o):=by
 have hexec:∀v,(Instr.fieldAt t (a.eval x) f).run X.P w = .ok v w->(execOp a.eval o).run X.P w = .ok (.value v) w:=by
  intro v h;unfold execOp;rw[ho];exact zdR h
 unfold zh6
 split
 ·rename_i fs b i off hk
  split
  ·rename_i oo u hf
   split
   ·trivial
   ·rename_i n hsz
    cases hal:zky h b with
    |false=>trivial
    |true=>
     obtain⟨g,hg,hgf⟩:=zj3 hX hk
     obtain⟨fd,h1,h2,h3⟩:=zmY hgf hf
     have hu:=zhM hX hsz
     cases hp with|c _ _ hp=>
     obtain⟨r,hr,hv⟩:=zcp hp (zmd hh hal)
     refine zj hnr (hexec (.pointer (some ⟨r.blk,i*r.esz+(off+oo),none⟩)) ?_) (.c _ _ (.ptr b i (off+oo) r hr))
     rw[hv]
     simp[Instr.fieldAt,run_underlying hg,h1,Instr.sureAddr,fieldPlace,h3,zbt hX hu,hsz,zeS,h2,Nat.add_assoc]
  ·trivial
 ·rename_i fs xs hk
  split
  ·rename_i oo u hf
   split
   ·trivial
   ·rename_i n hsz
    obtain⟨g,hg,hgf⟩:=zj3 hX hk
    obtain⟨fd,h1,h2,h3⟩:=zmY hgf hf
    have hu:=zhM hX hsz
    generalize hv:a.eval x=v at hp
    cases zdK hp with|rp _ ad vs hoo hs hl hr hw=>
    refine zj hnr (hexec (.pointer (some (ad.add oo))) ?_) (.c _ _ (.d _ _ (zhZ hoo hs hl hr hw oo)))
    rw[hv]
    simp[Instr.fieldAt,run_underlying hg,h1,Instr.sureAddr,fieldPlace,h3,zbt hX hu,hsz,h2]
  ·trivial
 ·trivial
theorem zqF (hX:XOk X) {t:Nat} (ht:(X.ty t).ok=true) (cs:Array Value) (off:Nat) (hle:off+(X.ty t).size<=cs.size) :
  (part t cs off).run X.P w = .ok (zh5 (X.ty t).isAgg ((cs.toList.drop off).take (X.ty t).size)) w:=by
 simp only[part,Sem.run_bind,zn9 hX ht,Result.andThen_ok]
 cases hag:(X.ty t).isAgg with
 |true=>
  simp only[if_true,Sem.run_bind,zbt hX ht,Result.andThen_ok,Sem.run_pure,zh5]
  congr 2
  apply Array.ext'
  simp[Nat.add_sub_cancel_left]
 |false=>
  have h1:=zmo hX ht hag
  rw[h1]at hle ⊢
  have hlt:off<cs.size:=by omega
  simp only[Bool.false_eq_true,if_false]
  rw[Array.getElem?_eq_getElem hlt]
  have:(cs.toList.drop off).take 1=[cs[off]]:=by
   rw[List.drop_eq_getElem_cons (by simpa using hlt)]
   simp
  rw[this]
  rfl
theorem zoY (hX:XOk X) (hnr:NR N S w) {a:Act} {o:Oper} {t:Nat} {x:Operand} {f:Nat} (ho:o.op = .field t x f) {p:TV} (hp:RepT N S w p (a.eval x)) :
  (zsP X t p f).Sound X.P N S w (execOp a.eval o):=by
 unfold zsP
 split
 ·rename_i fs cs hk
  split
  ·rename_i oo u hf
   cases hc:((X.ty u).ok&&Nat.ble (oo+(X.ty u).size) cs.length) with
   |false=>trivial
   |true=>
    simp only[Bool.and_eq_true]at hc
    obtain⟨g,hg,hgf⟩:=zj3 hX hk
    obtain⟨fd,h1,h2,h3⟩:=zmY hgf hf
    generalize hv:a.eval x=v at hp
    cases hp with|agg _ vs hp=>
    have hle:=Nat.le_of_ble_eq_true hc.2
    have hlen:cs.length=vs.size:=by simpa using hp.1
    refine zj hnr (v:=zh5 (X.ty u).isAgg ((vs.toList.drop oo).take (X.ty u).size)) ?_ (ze0 (zcz _ (zbY _ hp)))
    unfold execOp;rw[ho];refine zdR ?_
    rw[hv]
    simp only[Instr.field,Sem.run_bind,run_underlying hg,Result.andThen_ok,h1,asAgg,Sem.run_pure,h2,h3]
    exact zqF hX hc.1 vs oo (by omega)
  ·trivial
 ·trivial
theorem zoI (hX:XOk X) (hnr:NR N S w) {a:Act} {o:Oper} {t:Nat} {x y:Operand} (ho:o.op = .index t x y) {p i:TV} (hp:RepT N S w p (a.eval x)) (hi:RepT N S w i (a.eval y)) :
  (zr6 X t p i).Sound X.P N S w (execOp a.eval o):=by
 unfold zr6
 split
 ·rename_i n e cs k i hk
  cases hc:((X.ty e).ok&&Nat.beq cs.length (n*(X.ty e).size)) with
  |false=>trivial
  |true=>
   simp only[Bool.and_eq_true]at hc
   rintro⟨h0,h1⟩
   have ht:=zhx hX hk
   generalize hv:a.eval x=v at hp
   cases hp with|agg _ vs hp=>
   have hy:=zI hi
   have hlen:cs.length=vs.size:=by simpa using hp.1
   have hlen2:=Nat.eq_of_beq_eq_true hc.2
   have hlt:i.toNat<n:=by omega
   have hle:i.toNat*(X.ty e).size+(X.ty e).size<=n*(X.ty e).size:=by rw[←Nat.succ_mul];exact Nat.mul_le_mul_right _ hlt
   refine zj hnr (v:=zh5 (X.ty e).isAgg ((vs.toList.drop (i.toNat*(X.ty e).size)).take (X.ty e).size)) ?_ (ze0 (zcz _ (zbY _ hp)))
   unfold execOp;rw[ho];refine zdR ?_
   rw[hv,hy]
   simp only[Instr.index,Sem.run_bind,run_underlying ht,Result.andThen_ok,asIntOf,Sem.run_pure,h0,h1,and_self,if_true,zbt hX hc.1]
   exact zqF hX hc.1 vs _ (by omega)
 ·trivial
theorem zcr (hX:XOk X) {t e:Nat} (hk:(X.ty t).k = .slc e) (he:(X.ty e).ok=true) (a:Addr) (len cap:Nat) (k:IntKind) (i:Int) (h0:0<=i) (h1:i<len) :
  (Instr.indexAt t (.slice (some a) len cap) (.int k i)).run X.P w = .ok (.pointer (some (a.add (i.toNat*(X.ty e).size)))) w:=by
 simp[Instr.indexAt,run_underlying (zaX hX hk),asIntOf,h0,h1,zbt hX he]
theorem zgh (hX:XOk X) {t n e:Nat} (hk:(X.ty t).k = .arr n e) (he:(X.ty e).ok=true) (a:Addr) (k:IntKind) (i:Int) (h0:0<=i) (h1:i<n) :
  (Instr.indexAt t (.pointer (some a)) (.int k i)).run X.P w = .ok (.pointer (some (a.add (i.toNat*(X.ty e).size)))) w:=by
 simp[Instr.indexAt,run_underlying (zhx hX hk),asIntOf,Instr.sureAddr,h0,h1,zbt hX he]
theorem zjN (hX:XOk X) (hnr:NR N S w) {h:zg} (hh:HR N S w h) {a:Act} {o:Oper} {t:Nat} {x y:Operand} (ho:o.op = .indexAddr t x y) {p i:TV} (hp:RepT N S w p (a.eval x)) (hi:RepT N S w i (a.eval y)) :
  (ziz X h t p i).Sound X.P N S w (execOp a.eval o):=by
 have hexec:∀v,(Instr.indexAt t (a.eval x) (a.eval y)).run X.P w = .ok v w->(execOp a.eval o).run X.P w = .ok (.value v) w:=by
  intro v h;unfold execOp;rw[ho];exact zdR h
 unfold ziz
 split
 ·rename_i n e b j off k i hk
  cases hc:(zky h b&&(X.ty e).ok) with
  |false=>trivial
  |true=>
   simp only[Bool.and_eq_true]at hc
   rintro⟨h0,h1⟩
   cases hp with|c _ _ hp=>
   obtain⟨r,hr,hv⟩:=zcp hp (zmd hh hc.1)
   refine zj hnr (hexec _ (by rw[hv,zI hi];exact zgh hX hk hc.2 _ k i h0 h1)) ?_
   rw[zeS,Nat.add_assoc]
   exact .c _ _ (.ptr b j _ r hr)
 ·rename_i n e xs k i hk
  cases hc:(X.ty e).ok with
  |false=>trivial
  |true=>
   rintro⟨h0,h1⟩
   generalize hv:a.eval x=v at hp
   cases zdK hp with|rp _ ad vs hoo hs hl hr hw=>
   exact zj hnr (hexec _ (by rw[hv,zI hi];exact zgh hX hk hc ad k i h0 h1)) (.c _ _ (.d _ _ (zhZ hoo hs hl hr hw _)))
 ·rename_i e k l k' i hk
  cases hc:((X.ty e).ok&&Nat.beq k.size (X.ty e).size) with
  |false=>trivial
  |true=>
   simp only[Bool.and_eq_true]at hc
   have hsz:=Nat.eq_of_beq_eq_true hc.2
   rintro⟨h0,h1⟩
   generalize hv:a.eval x=v at hp
   cases zdK hp with
   |slnil _ _ _=>simp at h1;omega
   |sl _ _ ad c vs hoo hs hcc hm hl hr hw=>
    have hlt:i.toNat<l.length:=by omega
    refine zj hnr (hexec _ (by rw[hv,zI hi];exact zcr hX hk hc.1 ad _ c k' i h0 h1)) (.c _ _ (.d _ _ ?_))
    have he:=zkc k l vs ⟨hl,hr⟩ i.toNat hlt
    rw[zgz hs,←hsz]
    refine .rp _ _ _ (fun hne=>hoo (by intro e;subst e;simp at hne)) rfl he.1 he.2 fun j v hv=>?_
    rw[List.getElem?_take]at hv
    split at hv
    ·have:=hw (i.toNat*k.size+j) v (by simpa using hv)
     rw[←Nat.add_assoc]at this
     exact this
    ·cases hv
 ·rename_i e b k i hk
  split
  ·rename_i kk l hb
   cases hc:((X.ty e).ok&&Nat.beq kk.size (X.ty e).size) with
   |false=>trivial
   |true=>
    simp only[Bool.and_eq_true]at hc
    have hsz:=Nat.eq_of_beq_eq_true hc.2
    rintro⟨h0,h1⟩
    obtain⟨hm,⟨hn,hl⟩|⟨r,ws,T,h1',h2,h3,h4,h5,h6,h7⟩⟩:=hh b _ hb
    ·subst hl;simp at h1;omega
    ·cases hp with|c _ _ hp=>
     generalize hv:a.eval x=v at hp
     cases hp with
     |own0 _ _ hd=>rw[h1']at hd;cases hd
     |ownD _ _ hd _=>rw[h1']at hd;cases hd
     |own _ r' hr'=>
      rw[h1']at hr'
      cases hr'
      refine zj hnr (hexec _ (by rw[hv,zI hi,zaE h2,h3];exact zcr hX hk hc.1 _ _ _ k i h0 h1)) ?_
      rw[zeS,←hsz,←h2]
      have:=RepC.ptr (N:=N) (S:=S) (w:=w) b i.toNat 0 r h1'
      rw[Nat.add_zero]at this
      rw[Nat.zero_add]
      exact .c _ _ this
  ·rename_i kk l i0 off0 b0 hb
   cases hc:((X.ty e).ok&&Nat.beq kk.size (X.ty e).size) with
   |false=>trivial
   |true=>
    simp only[Bool.and_eq_true]at hc
    have hsz:=Nat.eq_of_beq_eq_true hc.2
    rintro⟨h0,h1⟩
    obtain⟨hm,_,_,r,ws,T,h1',h2,h3,h4,h5,h6,h7⟩:=hh b _ hb
    cases hp with|c _ _ hp=>
    generalize hv:a.eval x=v at hp
    cases hp with
    |own0 _ _ hd=>rw[h1']at hd;cases hd
    |ownD _ _ hd _=>rw[h1']at hd;cases hd
    |own _ r' hr'=>
     rw[h1']at hr'
     cases hr'
     refine zj hnr (hexec _ (by rw[hv,zI hi,zaE h2,h3];exact zcr hX hk hc.1 _ _ _ k i h0 h1)) ?_
     rw[zeS,←hsz,←h2]
     have:=RepC.ptr (N:=N) (S:=S) (w:=w) b i.toNat 0 r h1'
     rw[Nat.add_zero]at this
     rw[Nat.zero_add]
     exact .c _ _ this
  ·trivial
 ·rename_i e b oo n k i hk
  split
  ·rename_i kk l hb
   cases hc:((X.ty e).ok&&Nat.beq kk.size (X.ty e).size) with
   |false=>trivial
   |true=>
    simp only[Bool.and_eq_true]at hc
    have hsz:=Nat.eq_of_beq_eq_true hc.2
    rintro⟨h0,h1⟩
    obtain⟨hm,hbr⟩:=hh b _ hb
    cases hp with|c _ _ hp=>
    generalize hv:a.eval x=v at hp
    cases hp with
    |view0 _ _ _ hd=>simp at h1;omega
    |viewD _ _ _ _ hd _=>
     rcases hbr with⟨hn,_⟩|⟨r,_,_,h1',_⟩
     ·rw[hn]at hd;cases hd
     ·rw[h1']at hd;cases hd
    |view _ _ _ c r hr hc1 hc2 hc3=>
     rcases hbr with⟨hn,_⟩|⟨r',ws,T,h1',h2,_⟩
     ·rw[hn]at hr;cases hr
     ·rw[h1']at hr
      cases hr
      refine zj hnr (hexec _ (by rw[hv,zI hi];exact zcr hX hk hc.1 _ _ _ k i h0 h1)) ?_
      rw[zeS,←hsz,←h2,←Nat.add_mul]
      have:=RepC.ptr (N:=N) (S:=S) (w:=w) b (oo+i.toNat) 0 _ h1'
      rw[Nat.add_zero]at this
      exact .c _ _ this
  ·trivial
 ·trivial
end
section
variable {X:Ctx} {N:zm} {S:Nat->Prop} {w:World}
def zhH (a:Act) (x:Option Operand) (v:Option Int):Prop:=
 match x,v with
 |none,none=>True
 |some x,some i=>∃k,a.eval x = .int k i
 |_,_=>False
theorem zaI {a:Act} {ρ:Operand->TV} (hρ:∀x,RepT N S w (ρ x) (a.eval x)) {x:Option Operand} {v:Option Int} (h:zrx (x.map ρ)=some v):zhH a x v:=by
 cases x with
 |none=>simp[zrx]at h;subst h;trivial
 |some x=>
  simp only[Option.map_some]at h
  have hr:=hρ x
  generalize ρ x=tv at h hr
  unfold zrx at h
  split at h
  ·rename_i he;cases he
  ·rename_i k i he
   cases he
   cases h
   exact⟨k,zI hr⟩
  ·cases h
theorem zec {P:Program} (w:World) {v:Value} {k:IntKind} {i:Int} {y:Nat} {c:BoundsCode} (hv:v = .int k i) (h0:0<=i) (h1:i<=y):(Instr.sliceBound v y c).run P w = .ok i.toNat w:=by
 subst hv
 simp[Instr.sliceBound,asIntOf,h0,h1]
theorem zs6 {P:Program} (w:World) {a:Act} {len cap:Nat} {lo hi mx:Option Operand} {l h m:Option Int} (h1:zhH a lo l) (h2:zhH a hi h) (h3:zhH a mx m) (q0:0<=l.getD 0) (q1:l.getD 0<=h.getD len)
  (q2:h.getD len<=m.getD cap) (q3:m.getD cap<=cap) (q4:h=none->m=none) :
  (Instr.sliceBounds true len cap (lo.map a.eval) (hi.map a.eval) (mx.map a.eval)).run P w = .ok ((l.getD 0).toNat,(h.getD len).toNat,(m.getD cap).toNat) w:=by
 cases mx with
 |none=>
  cases m with
  |some m=>exact h3.elim
  |none=>
   simp only[Option.getD_none]at q2 q3
   cases hi with
   |none=>
    cases h with
    |some h=>exact h2.elim
    |none=>
     cases lo with
     |none=>
      cases l with
      |some l=>exact h1.elim
      |none=>simp[Instr.sliceBounds]
     |some lo=>
      cases l with
      |none=>exact h1.elim
      |some l=>
       obtain⟨k1,e1⟩:=h1
       simp only[Option.getD_some,Option.getD_none]at q0 q1
       have b1:∀c,(Instr.sliceBound (a.eval lo) len c).run P w = .ok l.toNat w:=fun c=>zec w e1 q0 q1
       simp[Instr.sliceBounds,b1]
   |some hi=>
    cases h with
    |none=>exact h2.elim
    |some h=>
     obtain⟨k2,e2⟩:=h2
     simp only[Option.getD_some]at q1 q2
     have b2:∀c,(Instr.sliceBound (a.eval hi) cap c).run P w = .ok h.toNat w:=fun c=>zec w e2 (by omega) q2
     cases lo with
     |none=>
      cases l with
      |some l=>exact h1.elim
      |none=>simp[Instr.sliceBounds,b2]
     |some lo=>
      cases l with
      |none=>exact h1.elim
      |some l=>
       obtain⟨k1,e1⟩:=h1
       simp only[Option.getD_some]at q0 q1
       have b1:∀c,(Instr.sliceBound (a.eval lo) h.toNat c).run P w = .ok l.toNat w:=fun c=>zec w e1 q0 (by omega)
       simp[Instr.sliceBounds,b1,b2]
 |some mx=>
  cases m with
  |none=>exact h3.elim
  |some m=>
   obtain⟨k3,e3⟩:=h3
   simp only[Option.getD_some]at q2 q3
   cases hi with
   |none=>
    cases h with
    |some h=>exact h2.elim
    |none=>cases q4 rfl
   |some hi=>
    cases h with
    |none=>exact h2.elim
    |some h=>
     obtain⟨k2,e2⟩:=h2
     simp only[Option.getD_some]at q1 q2
     have h0:0<=h:=by omega
     have b3:∀c,(Instr.sliceBound (a.eval mx) cap c).run P w = .ok m.toNat w:=fun c=>zec w e3 (by omega) q3
     have b2:∀c,(Instr.sliceBound (a.eval hi) m.toNat c).run P w = .ok h.toNat w:=fun c=>zec w e2 h0 (by omega)
     cases lo with
     |none=>
      cases l with
      |some l=>exact h1.elim
      |none=>simp[Instr.sliceBounds,b2,b3]
     |some lo=>
      cases l with
      |none=>exact h1.elim
      |some l=>
       obtain⟨k1,e1⟩:=h1
       simp only[Option.getD_some]at q0 q1
       have b1:∀c,(Instr.sliceBound (a.eval lo) h.toNat c).run P w = .ok l.toNat w:=fun c=>zec w e1 q0 (by omega)
       simp[Instr.sliceBounds,b1,b2,b3]
end
section
variable {X:Ctx} {N:zm} {S:Nat->Prop} {w:World}
def zbw (N:zm) (b:Nat) (s:NS):zm:=fun c=>if c=b then s else N c
theorem zy (N:zm) (b:Nat) (s:NS):zbw N b s b=s:=by simp[zbw]
theorem zo (N:zm) {b c:Nat} (s:NS) (h:c≠b):zbw N b s c=N c:=by simp[zbw,h]
theorem zo0 {b c : Nat} {x : AB} : dom [(b, x)] c ↔ c = b := by
  simp only [dom, zh]
  cases h : Nat.beq b c with
  | true => have := Nat.eq_of_beq_eq_true h; simp [this]
  | false => have : c ≠ b := by rintro rfl; simp at h
             simp [this]
theorem zmv (hnr:NR N S w) {base:Nat} (hf:N base = .unused) (k:EK):Step N S w (zbw N base .nil) w [(base,.data k [])]:=by
 have hl:∀b k,(zbw N base .nil b).has k->(N b).has k:=by
  intro b k h
  by_cases e:b=base
  ·subst e;rw[zy]at h;exact h.elim
  ·rwa [zo N _ e]at h
 refine⟨.refl _ _,⟨fun b b' k h h'=>hnr.inj' b b' k (hl b k h) (hl b' k h'),fun b k h=>hnr.lt' b k (hl b k h),hnr.sm⟩,⟨fun b=>?_,fun k _ ⟨b,h⟩=>⟨b,hl b k h⟩⟩,fun b hb=>?_,fun b x hx=>?_⟩
 ·by_cases e:b=base
  ·subst e;exact .inl hf
  ·exact .inr (.inl (zo N _ e))
 ·exact zo N _ (fun e=>hb (zo0.2 e))
 ·simp only[zh]at hx
  cases h:Nat.beq base b with
  |false=>rw[h]at hx;cases hx
  |true=>
   rw[h]at hx
   cases hx
   have:=Nat.eq_of_beq_eq_true h
   subst this
   exact⟨by simp[zE],.inl ⟨zy N _ _,rfl⟩⟩
theorem zfN {P:Program} {s:Sem Next} {q:Option Prop} {tv:TV} {δ:zg} (h:(∀p,q=some p->p)->zcQ P N S w s tv δ):(ER.need q (.ok tv δ)).Sound P N S w s:=by
 cases q with
 |none=>exact h (by simp)
 |some p=>exact fun hp=>h (by intro p' e;cases e;exact hp)
theorem ziL {n cap:Nat} (hc:n<=cap) {lo hi mx:Option Int} (h:∀q,zkB n lo hi mx=some q->q) :
  0<=lo.getD 0/\lo.getD 0<=hi.getD n/\hi.getD n<=n/\hi.getD n<=mx.getD cap/\mx.getD cap<=cap/\(hi=none->mx=none):=by
 cases lo<;>cases hi<;>cases mx
 all_goals first
  |(have h':=h _ rfl;simp only[Option.getD_none,Option.getD_some,reduceCtorEq,forall_const,false_implies,and_true];first|omega|exact h'.elim)
  |(simp only[Option.getD_none,forall_const,and_true];omega)
theorem zch (hX:XOk X) {t e:Nat} (hk:(X.ty t).k = .slc e) (he:(X.ty e).ok=true) {a:Act} {base:Option Addr} {len cap:Nat} {lo hi mx:Option Operand} {l h m:Option Int} (h1:zhH a lo l) (h2:zhH a hi h) (h3:zhH a mx m)
  (q0:0<=l.getD 0) (q1:l.getD 0<=h.getD len) (q2:h.getD len<=m.getD cap) (q3:m.getD cap<=cap) (q4:h=none->m=none) :
  (Instr.sliceAt t (.slice base len cap) (lo.map a.eval) (hi.map a.eval) (mx.map a.eval)).run X.P w =
   .ok (.slice (if (m.getD cap).toNat=(l.getD 0).toNat then base else base.map (·.add ((l.getD 0).toNat*(X.ty e).size))) ((h.getD len).toNat-(l.getD 0).toNat) ((m.getD cap).toNat-(l.getD 0).toNat)) w:=by
 have hb:=zs6 (P:=X.P) w h1 h2 h3 q0 q1 q2 q3 q4
 simp only[Instr.sliceAt,Sem.run_bind,run_underlying (zaX hX hk),Result.andThen_ok,Instr.slice,hb,zbt hX he,Sem.run_pure]
theorem zwC {α:Type} (l:List α) (lo hi:Option Int) (h0:0<=lo.getD 0) (h1:lo.getD 0<=hi.getD l.length) (h2:hi.getD l.length<=l.length) :
  cut l lo hi=(l.drop (lo.getD 0).toNat).take ((hi.getD l.length).toNat-(lo.getD 0).toNat):=by
 cases lo<;>cases hi<;>simp only[cut,Option.getD_none,Option.getD_some]at *
 ·simp
 ·simp
 ·rw[List.take_of_length_le (by simp)]
 ·rw[List.drop_take]
theorem zdg (k:EK):∀(l:List k.T) (n:Nat),(l.drop n).flatMap k.enc=(l.flatMap k.enc).drop (n*k.size)
 |[],n=>by simp
 |x::r,0=>by simp
 |x::r,n+1=>by
  have e:(n+1)*k.size=(k.enc x).length+n*k.size:=by rw[EK.enc_length,Nat.add_mul];omega
  have e1:(k.enc x).drop ((k.enc x).length+n*k.size)=[]:=List.drop_eq_nil_of_le (by omega)
  rw[List.drop_succ_cons,zdg k r n,List.flatMap_cons,e,List.drop_append,e1,List.nil_append,Nat.add_sub_cancel_left]
theorem zbe (k:EK):∀(l:List k.T) (n:Nat),(l.take n).flatMap k.enc=(l.flatMap k.enc).take (n*k.size)
 |[],n=>by simp
 |x::r,0=>by simp
 |x::r,n+1=>by
  have e:(n+1)*k.size=(k.enc x).length+n*k.size:=by rw[EK.enc_length,Nat.add_mul];omega
  have e1:(k.enc x).take ((k.enc x).length+n*k.size)=k.enc x:=List.take_of_length_le (by omega)
  rw[List.take_succ_cons,List.flatMap_cons,zbe k r n,List.flatMap_cons,e,List.take_append,e1,Nat.add_sub_cancel_left]
theorem zvh (hX:XOk X) {t e:Nat} (hk:(X.ty t).k = .slc e) (he:(X.ty e).ok=true) {k:EK} (hks:k.size=(X.ty e).size) {l:List k.T} {v:Value} (hv:Rep (OO N S) w (.sl k l) v) {a:Act} {lo hi mx:Option Operand} {li hiI mi:Option Int}
  (h1:zhH a lo li) (h2:zhH a hi hiI) (h3:zhH a mx mi) (hob:∀q,zkB l.length li hiI mi=some q->q) :
  ∃u,(Instr.sliceAt t v (lo.map a.eval) (hi.map a.eval) (mx.map a.eval)).run X.P w = .ok u w/\Rep (OO N S) w (.sl k (cut l li hiI)) u:=by
 cases hv with
 |slnil _ ad c=>
  obtain⟨q0,q1,qn,q2,q3,q4⟩:=ziL (n:=0) (Nat.zero_le c) hob
  refine⟨_,zch hX hk he h1 h2 h3 q0 q1 q2 q3 q4,?_⟩
  have:cut ([]:List k.T) li hiI=[]:=by cases li<;>cases hiI<;>simp[cut]
  rw[this]
  have e0:(hiI.getD ((0:Nat):Int)).toNat-(li.getD 0).toNat=0:=by omega
  rw[e0]
  exact .slnil k _ _
 |sl _ _ ad c vs hoo hs hcc hm hl hr hw=>
  obtain⟨q0,q1,qn,q2,q3,q4⟩:=ziL hcc hob
  refine⟨_,zch hX hk he h1 h2 h3 q0 q1 q2 q3 q4,?_⟩
  have hcut:=zwC l li hiI q0 q1 qn
  rw[hcut]
  by_cases hz:(hiI.getD (l.length:Int)).toNat-(li.getD 0).toNat=0
  ·rw[hz,List.take_zero]
   exact .slnil k _ _
  ·have hml:¬(mi.getD (c:Int)).toNat=(li.getD 0).toNat:=by omega
   rw[if_neg hml,Option.map_some,zgz hs,←hks]
   generalize hA:(li.getD 0).toNat=A at *
   generalize hB:(hiI.getD (l.length:Int)).toNat-A=B at *
   have hlen:((l.drop A).take B).length=B:=by simp;omega
   have hrep:RepL (OO N S) w (((l.drop A).take B).flatMap k.enc) ((vs.drop (A*k.size)).take (B*k.size)):=by
    rw[zbe,zdg]
    exact zbK _ (zdb _ ⟨hl,hr⟩)
   have:=Rep.sl (O:=OO N S) (w:=w) k ((l.drop A).take B) ⟨ad.block,ad.off+A*k.size,none⟩ ((mi.getD (c:Int)).toNat-A) _ (fun hne=>hoo (by intro e;subst e;simp at hne)) rfl (by rw[hlen];omega) (by rw[hlen];omega) hrep.1 hrep.2
    (fun j v hv=>by
     rw[List.getElem?_take]at hv
     split at hv
     ·have:=hw (A*k.size+j) v (by simpa using hv)
      rw[←Nat.add_assoc]at this
      exact this
     ·cases hv)
   rw[hlen]at this
   exact this
end
section
variable {X:Ctx} {N:zm} {S:Nat->Prop} {w:World}
theorem zcv {O:Nat->Prop} {d:DV} {l:List Int} {v:Value} (h:d.toInts=some l) (hr:Rep O w d v):Rep O w (.sl .int l) v:=by
 unfold DV.toInts at h
 split at h
 ·cases h;exact hr
 ·cases h
  cases hr
  exact .slnil .int none 0
 ·cases h
theorem znS {O:Nat->Prop} {d:DV} {l:List Op} {v:Value} (h:d.toOps=some l) (hr:Rep O w d v):Rep O w (.sl .op l) v:=by
 unfold DV.toOps at h
 split at h
 ·cases h;exact hr
 ·cases h
  cases hr
  exact .slnil .op none 0
 ·cases h
theorem zr {x:CV} {xs:List CV} {vs:List Value} (h:RepCL N S w (x::xs) vs):∃v us,vs=v::us/\RepC N S w x v/\RepCL N S w xs us:=by
 cases vs with
 |nil=>have:=h.1;simp at this
 |cons v us=>exact⟨v,us,rfl,h.2 0 x v rfl rfl,by simpa using h.1,fun i x v hx hv=>h.2 (i+1) x v (by simpa using hx) (by simpa using hv)⟩
theorem zaF {vs:List Value} (h:RepCL N S w [] vs):vs=[]:=List.eq_nil_of_length_eq_zero h.1.symm
theorem zX {x:DV} {v:Value} (h:RepC N S w (.d x) v):Rep (OO N S) w x v:=by cases h with|d _ _ h=>exact h
theorem repL_nil {O:Nat->Prop}:RepL O w [] []:=⟨rfl,fun i x v h=>by simp at h⟩
theorem repL_cons {O:Nat->Prop} {x:DV} {v:Value} {xs:List DV} {vs:List Value} (h:Rep O w x v) (hs:RepL O w xs vs):RepL O w (x::xs) (v::vs):=
 ⟨by simp[hs.1],fun i y u hx hv=>by
  cases i with
  |zero=>simp at hx hv;subst hx hv;exact h
  |succ i=>exact hs.2 i y u (by simpa using hx) (by simpa using hv)⟩
theorem zf8 {k:EK} {cs:List CV} {x:k.T} {vs:List Value} (h:k.fit cs=some x) (hr:RepCL N S w cs vs):RepL (OO N S) w (k.enc x) vs:=by
 cases k
 case int=>
  simp only[EK.fit]at h
  split at h
  ·cases h
   obtain⟨v,us,rfl,h1,hr⟩:=zr hr
   cases zaF hr
   exact repL_cons (zX h1) repL_nil
  ·cases h
 case bool=>
  simp only[EK.fit]at h
  split at h
  ·cases h
   obtain⟨v,us,rfl,h1,hr⟩:=zr hr
   cases zaF hr
   exact repL_cons (zX h1) repL_nil
  ·cases h
 case page=>
  simp only[EK.fit]at h
  split at h
  ·cases h
   obtain⟨_,_,rfl,h1,hr⟩:=zr hr
   obtain⟨_,_,rfl,h2,hr⟩:=zr hr
   cases zaF hr
   exact repL_cons (zX h1) (repL_cons (zX h2) repL_nil)
  ·cases h
 case op=>
  simp only[EK.fit]at h
  split at h
  ·cases h
   obtain⟨_,_,rfl,h1,hr⟩:=zr hr
   obtain⟨_,_,rfl,h2,hr⟩:=zr hr
   obtain⟨_,_,rfl,h3,hr⟩:=zr hr
   obtain⟨_,_,rfl,h4,hr⟩:=zr hr
   cases zaF hr
   exact repL_cons (zX h1) (repL_cons (zX h2) (repL_cons (zX h3) (repL_cons (zX h4) repL_nil)))
  ·cases h
 case lists=>
  simp only[EK.fit]at h
  split at h
  ·split at h
   ·rename_i e1 e2 e3
    cases h
    obtain⟨_,_,rfl,h1,hr⟩:=zr hr
    obtain⟨_,_,rfl,h2,hr⟩:=zr hr
    obtain⟨_,_,rfl,h3,hr⟩:=zr hr
    cases zaF hr
    exact repL_cons (zcv e1 (zX h1)) (repL_cons (zcv e2 (zX h2)) (repL_cons (zcv e3 (zX h3)) repL_nil))
   ·cases h
  ·cases h
 case thread=>
  simp only[EK.fit]at h
  split at h
  ·split at h
   ·rename_i e1 e2 e3 e4
    cases h
    obtain⟨_,_,rfl,h1,hr⟩:=zr hr
    obtain⟨_,_,rfl,h2,hr⟩:=zr hr
    obtain⟨_,_,rfl,h3,hr⟩:=zr hr
    obtain⟨_,_,rfl,h4,hr⟩:=zr hr
    obtain⟨_,_,rfl,h5,hr⟩:=zr hr
    obtain⟨_,_,rfl,h6,hr⟩:=zr hr
    obtain⟨_,_,rfl,h7,hr⟩:=zr hr
    obtain⟨_,_,rfl,h8,hr⟩:=zr hr
    obtain⟨_,_,rfl,h9,hr⟩:=zr hr
    obtain⟨_,_,rfl,h10,hr⟩:=zr hr
    obtain⟨_,_,rfl,h11,hr⟩:=zr hr
    obtain⟨_,_,rfl,h12,hr⟩:=zr hr
    obtain⟨_,_,rfl,h13,hr⟩:=zr hr
    obtain⟨_,_,rfl,h14,hr⟩:=zr hr
    obtain⟨_,_,rfl,h15,hr⟩:=zr hr
    cases zaF hr
    exact repL_cons (zX h1) (repL_cons (zX h2) (repL_cons (zX h3) (repL_cons (zX h4) (repL_cons (zX h5) (repL_cons (zcv e1 (zX h6)) (repL_cons (zcv e2 (zX h7)) (repL_cons (zcv e3 (zX h8))
     (repL_cons (zX h9) (repL_cons (zX h10) (repL_cons (zX h11) (repL_cons (znS e4 (zX h12)) (repL_cons (zX h13) (repL_cons (zX h14) (repL_cons (zX h15) repL_nil))))))))))))))
   ·cases h
  ·cases h
 case res=>
  simp only[EK.fit]at h
  split at h
  ·cases h
   obtain⟨_,_,rfl,h1,hr⟩:=zr hr
   obtain⟨_,_,rfl,h2,hr⟩:=zr hr
   obtain⟨_,_,rfl,h3,hr⟩:=zr hr
   obtain⟨_,_,rfl,h4,hr⟩:=zr hr
   obtain⟨_,_,rfl,h5,hr⟩:=zr hr
   obtain⟨_,_,rfl,h6,hr⟩:=zr hr
   obtain⟨_,_,rfl,h7,hr⟩:=zr hr
   cases zaF hr
   exact repL_cons (zX h1) (repL_cons (zX h2) (repL_cons (zX h3) (repL_cons (zX h4) (repL_cons (zX h5) (repL_cons (zX h6) (repL_cons (zX h7) repL_nil))))))
  ·cases h
 case pair=>
  simp only[EK.fit]at h
  split at h
  ·cases h
   obtain⟨_,_,rfl,h1,hr⟩:=zr hr
   obtain⟨_,_,rfl,h2,hr⟩:=zr hr
   cases zaF hr
   exact repL_cons (zX h1) (repL_cons (zX h2) repL_nil)
  ·cases h
 case ints=>
  rcases cs with _|⟨c,_|⟨c2,r⟩⟩
  ·cases h
  ·cases c with
   |d a=>
    obtain⟨_,_,rfl,h1,hr⟩:=zr hr
    cases zaF hr
    exact repL_cons (zcv h (zX h1)) repL_nil
   |_=>cases h
  ·cases c<;>cases h
 case opss=>
  rcases cs with _|⟨c,_|⟨c2,r⟩⟩
  ·cases h
  ·cases c with
   |d a=>
    obtain⟨_,_,rfl,h1,hr⟩:=zr hr
    cases zaF hr
    exact repL_cons (znS h (zX h1)) repL_nil
   |_=>cases h
  ·cases c<;>cases h
theorem zf0 {k:EK} {sz:Nat}:∀ {n:Nat} {cs:List CV} {l:List k.T} {vs:List Value},ziy k (ziq sz cs n)=some l->RepCL N S w cs vs->cs.length=n*sz ->
  RepL (OO N S) w (l.flatMap k.enc) vs/\l.length=n
 |0,cs,l,vs,h,hr,hl=>by
  simp only[ziq,ziy,Option.some.injEq]at h
  subst h
  have:vs=[]:=List.eq_nil_of_length_eq_zero (by rw[←hr.1,hl];simp)
  subst this
  exact⟨repL_nil,rfl⟩
 |n+1,cs,l,vs,h,hr,hl=>by
  simp only[ziq,ziy]at h
  split at h
  ·rename_i x xs h1 h2
   cases h
   have hle:sz<=cs.length:=by rw[hl,Nat.add_mul];omega
   obtain⟨h3,h4⟩:=zf0 h2 (zbY sz hr) (by simp[hl,Nat.add_mul])
   refine⟨?_,by simp[h4]⟩
   have h5:=zf8 h1 (zcz sz hr)
   have:=za2 h5 h3
   rw[List.take_append_drop]at this
   exact this
  ·cases h
theorem ziU (hnr:NR N S w) {base:Nat} (hf:N base = .unused) (r:RL) (hr:r.blk=w.heap.size) {x:AB} {w' : World} (hw:WExt (fun _=>False) w w') (hlt:w.heap.size<w'.heap.size)
  (hb:BR (zbw N base (.live r)) S w' base x):Step N S w (zbw N base (.live r)) w' [(base,x)]:=by
 have hl:∀b k,b≠base->(zbw N base (.live r) b).has k->(N b).has k:=fun b k e h=>by rwa [zo N _ e]at h
 have hs:∀k,(zbw N base (.live r) base).has k->r.blk=k:=fun k h=>by rw[zy]at h;exact h
 refine⟨hw.mono (fun _ _ h=>h.elim),⟨fun b b' k h h'=>?_,fun b k h=>?_,fun k hk=>Nat.lt_of_lt_of_le (hnr.sm k hk) hw.size⟩,⟨fun b=>?_,fun k hk ⟨b,h⟩=>?_⟩,fun b hb'=>zo N _ (fun e=>hb' (zo0.2 e)),fun b y hy=>?_⟩
 ·by_cases e:b=base
  ·by_cases e' : b' = base
   ·rw[e,e']
   ·subst e
    have h1:=hs k h
    have:=(hnr.lt' b' k (hl b' k e' h')).1
    omega
  ·by_cases e' : b' = base
   ·subst e'
    have h1:=hs k h'
    have:=(hnr.lt' b k (hl b k e h)).1
    omega
   ·exact hnr.inj' b b' k (hl b k e h) (hl b' k e' h')
 ·by_cases e:b=base
  ·subst e
   have h1:=hs k h
   exact⟨by omega,fun hs=>by have:=hnr.sm _ hs;omega⟩
  ·have:=hnr.lt' b k (hl b k e h)
   exact⟨Nat.lt_of_lt_of_le this.1 hw.size,this.2⟩
 ·by_cases e:b=base
  ·subst e;exact .inl hf
  ·exact .inr (.inl (zo N _ e))
 ·by_cases e:b=base
  ·subst e
   have h1:=hs k h
   omega
  ·exact⟨b,hl b k e h⟩
 ·simp only[zh]at hy
  cases h:Nat.beq base b with
  |false=>rw[h]at hy;cases hy
  |true=>
   rw[h]at hy
   cases hy
   have:=Nat.eq_of_beq_eq_true h
   subst this
   exact hb
theorem zbU (w:World) (o:Obj):WExt (fun _=>False) w (w.alloc o):=⟨rfl,rfl,rfl,by simp,fun k hk _=>Go.RowKit.Below.heap_alloc w o k hk⟩
theorem zjH (w:World):WExt (fun _=>False) w w.drew:=⟨rfl,rfl,rfl,Nat.le_refl _,fun _ _ _=>rfl⟩
theorem zoD {base : Nat} (hf : N base = .unused) (r : RL) (hr : r.blk = w.heap.size) : NExt N (zbw N base (.live r)) w :=
  ⟨fun b => by by_cases e : b = base
               · subst e; exact .inl hf
               · exact .inr (.inl (zo N _ e)),
   fun k hk ⟨b, h⟩ => by
    by_cases e : b = base
    · subst e; rw [zy] at h; have h1 : r.blk = k := h; omega
    · exact ⟨b, by rwa [zo N _ e] at h⟩⟩
theorem zms (hnr:NR N S w) {base:Nat} (hf:N base = .unused) {cs:List CV} {vs:Array Value} (T:TypeId) (h:RepCL N S w cs vs.toList) :
  RepT (zbw N base (.live ⟨w.heap.size,0,0,0⟩)) S (w.alloc (.cells vs T)) (.c (.ptr base 0 0)) (.pointer (some ⟨w.heap.size,0,none⟩)) /\
  Step N S w (zbw N base (.live ⟨w.heap.size,0,0,0⟩)) (w.alloc (.cells vs T)) [(base,.vars cs)]:=by
 refine⟨.c _ _ (.ptr base 0 0 ⟨w.heap.size,0,0,0⟩ (zy N _ _)),ziU hnr hf _ rfl (zbU w _) (by simp) ?_⟩
 exact⟨_,vs,T,zy N _ _,Go.heap_alloc_new w _,h.keep ((zbU w _).mono (fun _ _ h=>h.elim)) (zoD hf _ rfl)⟩
theorem zh4 (hnr:NR N S w) {base:Nat} (hf:N base = .unused) {k:EK} {l:List k.T} (cap:Nat) {vs:Array Value} (T:TypeId) {w1:World} (hw1:WExt (fun _=>False) w w1) (he:w1.heap.size=w.heap.size)
  (hc:l.length<=cap) (hm:l.length<=zE) (hsz:cap*k.size<=vs.size) (h:RepL (OO N S) w (l.flatMap k.enc) (vs.toList.take (l.length*k.size))) :
  RepT (zbw N base (.live ⟨w.heap.size,cap,l.length,k.size⟩)) S (w1.alloc (.cells vs T)) (.c (.own base)) (.slice (some ⟨w.heap.size,0,none⟩) l.length cap) /\
  Step N S w (zbw N base (.live ⟨w.heap.size,cap,l.length,k.size⟩)) (w1.alloc (.cells vs T)) [(base,.data k l)]:=by
 have hx:WExt (fun _=>False) w (w1.alloc (.cells vs T)):=hw1.trans (zbU w1 _) (fun _ _ h=>h.elim)
 refine⟨.c _ _ (by rw[←zaE (r:=⟨w.heap.size,cap,l.length,k.size⟩) (k:=k) rfl];exact .own base _ (zy N _ _)),ziU hnr hf _ rfl hx (by simp;omega) ?_⟩
 refine⟨hm,.inr ⟨_,vs,T,zy N _ _,rfl,rfl,hc,?_,hsz,h.keep (hx.mono (fun _ _ h=>h.elim)) ((zoD hf _ rfl).oo S)⟩⟩
 have:=Go.heap_alloc_new w1 (.cells vs T)
 rw[he]at this
 exact this
end
section
variable {X:Ctx} {N:zm} {S:Nat->Prop} {w:World}
theorem zcm {t:Nat} (h:TyOk X.P t (X.ty t)):∃j z,X.P.info? t=some j/\j.zero=some z/\j.size=(X.ty t).size/\z.cells.size=(X.ty t).size/\RepCL N S w ((X.ty t).zero.map .d) z.cells.toList:=by
 obtain⟨j,z,h1,h2,_,h3,h4,h5,h6,_⟩:=h.info
 refine⟨j,z,h1,h3,h2,h6,?_⟩
 rw[h4]
 refine⟨by simp,fun i x v hx hv=>?_⟩
 simp only[List.map_map,List.getElem?_map,Option.map_eq_some_iff]at hx
 obtain⟨u,hu,rfl⟩:=hx
 rw[hu]at hv
 cases hv
 exact .d _ _ (.lit _ (h5 _ (List.mem_of_getElem? hu)))
theorem zrb (hX:XOk X) (hnr:NR N S w) {base:Nat} (hf:N base = .unused) {a:Act} {o:Oper} {t:Nat} (ho:o.op = .alloc t) (ht:(X.ty t).ok=true) :
  zcQ X.P N S w (execOp a.eval o) (.c (.ptr base 0 0)) [(base,.vars ((X.ty t).zero.map .d))]:=by
 obtain⟨j,z,h1,h2,h3,h4,h5⟩:=zcm (N:=N) (S:=S) (w:=w) (hX.ty t ht)
 obtain⟨e1,e2⟩:=zms hnr hf t h5
 refine⟨_,_,_,.inl ?_,e1,e2⟩
 unfold execOp;rw[ho];refine zdR ?_
 simp[Instr.alloc,zeroValue,typeInfo,h1,h2,newVar,newRow]
theorem zf6 {cs ys:List CV} {vs us:List Value} (h:RepCL N S w cs vs) (h' : RepCL N S w ys us) (o:Nat):RepCL N S w (zK cs o ys) (vs.take o++us++vs.drop (o+us.length)):=by
 unfold zK
 rw[h'.1]
 exact zfX (zfX (zcz o h) h') (zbY _ h)
theorem zes (hnr:NR N S w) {b:Nat} {r:RL} (hb:N b = .live r) {x:AB} {w' : World} (hw:WExt (fun k=>k=r.blk) w w') (hx:BR N S w' b x):Step N S w N w' [(b,x)]:=by
 have ho:zN N r.blk:=zet hb
 refine⟨hw.mono ?_,⟨hnr.inj',fun b k h=>⟨Nat.lt_of_lt_of_le (hnr.lt' b k h).1 hw.size,(hnr.lt' b k h).2⟩,fun k hk=>Nat.lt_of_lt_of_le (hnr.sm k hk) hw.size⟩,.refl _ _,fun _ _=>rfl,fun c y hy=>?_⟩
 ·rintro k hk rfl
  exact⟨b,zo0.2 rfl,NS.has_live hb⟩
 ·simp only[zh]at hy
  cases h:Nat.beq b c with
  |false=>rw[h]at hy;cases hy
  |true=>
   rw[h]at hy
   cases hy
   have:=Nat.eq_of_beq_eq_true h
   subst this
   exact hx
theorem zcF (w:World) (g:Nat) (cur cur' : Array Value) (T:TypeId) (hg:w.heap[g]? = some (.cells cur T (0,0))):WExt (fun k=>k=g) w (w.setRow g cur'):=
 ⟨rfl,rfl,rfl,by simp,fun k _ hk=>setRow_other w g k _ hk⟩
theorem zey {b:Nat} {r:RL} (hb:N b = .live r) {w' : World} (hw:WExt (fun k=>k=r.blk) w w'):WExt (OO N S) w w':=
 hw.mono fun k _ e=>.inl (e▸zet hb)
theorem zcq {P:Program} (hX:XOk X) {t:Nat} (ht:(X.ty t).ok=true) (g off:Nat) (cur:Array Value) (T:TypeId) (hg:w.heap[g]? = some (.cells cur T (0,0))) (v:Value) (hv:v.cells.size=(X.ty t).size)
  (hle:off+v.cells.size<=cur.size) (h1:∀u∈v.cells.toList,u.oneCell' = true) :
  (storeVar t ⟨g,off,none⟩ v).run X.P w = .ok () (w.setRow g (cur.toList.take off++v.cells.toList++cur.toList.drop (off+v.cells.toList.length)).toArray):=by
 simp only[storeVar,Sem.run_bind,zbt hX ht,Result.andThen_ok]
 rw[if_neg (by simp[hv])]
 have:=run_storeCells_at X.P g off T v.cells.toList 0 cur w hg (by simpa using hle) h1
 simpa using this
theorem zd5 {cs:List CV} {vs:List Value} (h:RepCL N S w cs vs):∀u∈vs,u.oneCell' = true:=by
 intro u hu
 obtain⟨i,hi,rfl⟩:=List.getElem_of_mem hu
 exact(h.2 i (cs[i]'(by rw[h.1];exact hi)) _ (List.getElem?_eq_getElem _) (List.getElem?_eq_getElem hi)).one
theorem zjU {O:Nat->Prop} (k:EK) (l:List k.T) (vs:List Value) (h:RepL O w (l.flatMap k.enc) vs) (i:Nat) (hi:i<l.length) (x:k.T) {us:List Value} (hx:RepL O w (k.enc x) us) :
  RepL O w ((l.set i x).flatMap k.enc) (vs.take (i*k.size)++us++vs.drop (i*k.size+k.size)):=by
 have e:(l.set i x)=l.take i++[x]++l.drop (i+1):=by
  rw[List.set_eq_take_append_cons_drop,if_pos hi];simp
 rw[e]
 simp only[List.flatMap_append,List.flatMap_cons,List.flatMap_nil,List.append_nil]
 rw[zbe,zdg,Nat.succ_mul]
 exact za2 (za2 (zbK _ h) hx) (zdb _ h)
theorem zuW {α:Type} (l:List α) (a n o:Nat) (ys:List α) (h1:a+n<=l.length) (h2:o+ys.length<=n) :
  l.take a++((((l.drop a).take n).take o)++ys++((l.drop a).take n).drop (o+ys.length))++l.drop (a+n)=l.take (a+o)++ys++l.drop (a+o+ys.length):=by
 apply List.ext_getElem?
 intro i
 simp only[List.getElem?_append,List.length_append,List.length_take,List.length_drop,List.getElem?_take,List.getElem?_drop]
 have m1:min a l.length=a:=by omega
 have m2:min (a+o) l.length=a+o:=by omega
 have m3:min n (l.length-a)=n:=by omega
 have m4:min o n=o:=by omega
 simp only[m1,m2,m3,m4]
 by_cases c1:i<a
 ·simp[c1,show i<a+(o+ys.length+(n-(o+ys.length))) from by omega,show i<a+o+ys.length from by omega,show i<a+o from by omega]
 ·by_cases c2:i<a+o
  ·simp[c1,c2,show i<a+(o+ys.length+(n-(o+ys.length))) from by omega,show i<a+o+ys.length from by omega,show i-a<o+ys.length from by omega,show i-a<o from by omega,show i-a<n from by omega,show a+(i-a)=i from by omega]
  ·by_cases c3:i<a+o+ys.length
   ·simp[c1,c2,c3,show i<a+(o+ys.length+(n-(o+ys.length))) from by omega,show i-a<o+ys.length from by omega,show ¬i-a<o from by omega,show i-a-o=i-(a+o) from by omega]
   ·by_cases c4:i<a+n
    ·simp[c1,c3,show i<a+(o+ys.length+(n-(o+ys.length))) from by omega,show ¬i-a<o+ys.length from by omega,show o+ys.length+(i-a-(o+ys.length))<n from by omega,
      show a+(o+ys.length+(i-a-(o+ys.length)))=i from by omega,show a+o+ys.length+(i-(a+o+ys.length))=i from by omega]
    ·simp[c3,show ¬i<a+(o+ys.length+(n-(o+ys.length))) from by omega,show a+n+(i-(a+(o+ys.length+(n-(o+ys.length)))))=i from by omega,show a+o+ys.length+(i-(a+o+ys.length))=i from by omega]
theorem zn7 {cs:List CV} {vs:List Value} (h:RepCL N S w cs vs) {y:CV} {u:Value} (hy:RepC N S w y u) (p:Nat):RepCL N S w (cs.set p y) (vs.set p u):=by
 refine⟨by simp[h.1],fun i x v hx hv=>?_⟩
 rw[List.getElem?_set]at hx hv
 by_cases e:p=i
 ·rw[if_pos e]at hx hv
  split at hx
  ·split at hv
   ·cases hx;cases hv;exact hy
   ·cases hv
  ·cases hx
 ·rw[if_neg e]at hx hv
  exact h.2 i x v hx hv
theorem zq0 {xs:List DV} {vs:List Value} (h:RepCL N S w (xs.map .d) vs):RepL (OO N S) w xs vs:=
 ⟨by simpa using h.1,fun i x v hx hv=>zX (h.2 i (.d x) v (by rw[List.getElem?_map,hx];rfl) hv)⟩
theorem zml {α:Type} (cur:List α) (p n:Nat) (v:α) (h:p<cur.length):(cur.take p++[v]++cur.drop (p+1)).take n=(cur.take n).set p v:=by
 have e:cur.take p++[v]++cur.drop (p+1)=cur.set p v:=by rw[List.set_eq_take_append_cons_drop,if_pos h];simp
 rw[e,List.take_set]
theorem zuu {k:EK} {l:List k.T} {i off:Nat} {s:DV} {x:k.T} (hi:i<l.length) (ho:off<k.size) (hfit:k.fit (zK ((k.enc (l.getD i default)).map .d) off [.d s])=some x) {V:List Value}
  (h:RepCL N S w (((l.flatMap k.enc).map CV.d).set (i*k.size+off) (.d s)) V):RepL (OO N S) w ((l.set i x).flatMap k.enc) V:=by
 have hle:i*k.size+k.size<=l.length*k.size:=by rw[←Nat.succ_mul];exact Nat.mul_le_mul_right _ hi
 have hf:=za1 k l
 have e:(l.set i x)=l.take i++[x]++l.drop (i+1):=by
  rw[List.set_eq_take_append_cons_drop,if_pos hi];simp
 have eV:V=V.take (i*k.size)++(V.drop (i*k.size)).take k.size++V.drop (i*k.size+k.size):=by
  rw[List.append_assoc,←List.drop_drop,List.take_append_drop,List.take_append_drop]
 rw[e,eV]
 simp only[List.flatMap_append,List.flatMap_cons,List.flatMap_nil,List.append_nil]
 rw[zbe,zdg,Nat.succ_mul]
 refine za2 (za2 (zq0 ?_) (zf8 hfit ?_)) (zq0 ?_)
 ·have:=zcz (i*k.size) h
  rwa [List.take_set,List.set_eq_of_length_le (by simp;omega),←List.map_take]at this
 ·have:=zcz k.size (zbY (i*k.size) h)
  have e2:((((l.flatMap k.enc).map CV.d).set (i*k.size+off) (.d s)).drop (i*k.size)).take k.size=zK ((k.enc (l.getD i default)).map .d) off [.d s]:=by
   have hs:zK ((k.enc (l.getD i default)).map CV.d) off [.d s]=((k.enc (l.getD i default)).map CV.d).set off (.d s):=by
    unfold zK
    rw[List.set_eq_take_append_cons_drop,if_pos (by simp[EK.enc_length];exact ho)];simp
   rw[hs]
   apply List.ext_getElem?
   intro j
   rw[List.getElem?_take,List.getElem?_drop,List.getElem?_set,List.getElem?_set]
   simp only[List.length_map,EK.enc_length,hf]
   by_cases hj:j<k.size
   ·rw[if_pos hj]
    by_cases ej:off=j
    ·subst ej
     rw[if_pos rfl,if_pos rfl,if_pos (by omega),if_pos ho]
    ·rw[if_neg (by omega),if_neg ej,List.getElem?_map,List.getElem?_map,ziM k l i j hi hj]
   ·rw[if_neg hj,if_neg (by omega),List.getElem?_eq_none (by simp[EK.enc_length];omega)]
  rwa [e2]at this
 ·have:=zbY (i*k.size+k.size) h
  rwa [List.drop_set,if_pos (by omega),←List.map_drop]at this
theorem zsc (hnr:NR N S w) {h:zg} (hh:HR N S w h) {b:Nat} {k:EK} {l:List k.T} (hb:zh h b=some (.data k l)) {v:Value} (hv:RepC N S w (.own b) v):Rep (OO (zbw N b .dead) S) w (.sl k l) v:=by
 obtain⟨hm,⟨hn,hl⟩|⟨r,cur,T,h1,h2,h3,h4,h5,h6,h7⟩⟩:=hh b _ hb
 ·subst hl
  cases hv with
  |own0 _ a _=>exact .slnil k a 0
  |own _ r hr=>rw[hn]at hr;cases hr
  |ownD _ _ hd _=>rw[hn]at hd;cases hd
 ·cases hv with
  |own0 _ a hd=>rw[h1]at hd;cases hd
  |ownD _ _ hd _=>rw[h1]at hd;cases hd
  |own _ r' hr'=>
   rw[h1]at hr'
   cases hr'
   rw[zaE h2,h3]
   have hno:¬OO (zbw N b .dead) S r.blk:=by
    rintro (⟨c,hc⟩|hs)
    ·by_cases e:c=b
     ·subst e;rw[zy]at hc;exact hc.elim
     ·rw[zo _ _ e]at hc
      exact e (hnr.inj' c b r.blk hc (NS.has_live h1))
    ·exact(hnr.lt b r h1).2 hs
   have hoo:∀q,q<w.heap.size->OO (zbw N b .dead) S q->OO N S q:=by
    rintro q _ (⟨c,hc⟩|hs)
    ·by_cases e:c=b
     ·subst e;rw[zy]at hc;exact hc.elim
     ·rw[zo _ _ e]at hc;exact .inl ⟨c,hc⟩
    ·exact .inr hs
   have h8:=h7.keep (WExt.refl _ w) hoo
   exact .sl k l ⟨r.blk,0,none⟩ r.cap _ (fun _=>hno) rfl h4 hm h8.1 h8.2 (zan h5 0 _ fun j v hv=>by rw[List.getElem?_take]at hv;split at hv;simpa using hv;cases hv)
theorem zuO (hnr:NR N S w) {b b' : Nat} {r:RL} (hb:N b = .live r) (hne:b≠b') {x:AB} {w' : World} (hw:WExt (fun k=>k=r.blk) w w') (hx:BR (zbw N b' .dead) S w' b x) :
  Step N S w (zbw N b' .dead) w' [(b,x),(b',.dead)]:=by
 have hl:∀c k,(zbw N b' .dead c).has k->(N c).has k:=by
  intro c k h
  by_cases e:c=b'
  ·subst e;rw[zy]at h;exact h.elim
  ·rwa [zo _ _ e]at h
 refine⟨hw.mono ?_,⟨fun c c' k h h'=>hnr.inj' c c' k (hl c k h) (hl c' k h'),fun c k h=>⟨Nat.lt_of_lt_of_le (hnr.lt' c k (hl c k h)).1 hw.size,(hnr.lt' c k (hl c k h)).2⟩,fun k hk=>Nat.lt_of_lt_of_le (hnr.sm k hk) hw.size⟩,
  ⟨fun c=>?_,fun k _ ⟨c,h⟩=>⟨c,hl c k h⟩⟩,fun c hc=>?_,fun c y hy=>?_⟩
 ·rintro k hk rfl
  refine⟨b,?_,NS.has_live hb⟩
  simp[dom,zh]
 ·by_cases e:c=b'
  ·subst e;exact .inr (.inr (.inl (zy _ _ _)))
  ·exact .inr (.inl (zo _ _ e))
 ·refine zo _ _ ?_
  rintro rfl
  apply hc
  simp only[dom,zh]
  cases h:Nat.beq b c with
  |true=>rfl
  |false=>simp
 ·simp only[zh]at hy
  cases h:Nat.beq b c with
  |true=>
   rw[h]at hy
   cases hy
   have:=Nat.eq_of_beq_eq_true h
   subst this
   exact hx
  |false=>
   rw[h]at hy
   simp only[cond_false]at hy
   cases h' : Nat.beq b' c with
   |true=>
    rw[h']at hy
    cases hy
    have:=Nat.eq_of_beq_eq_true h'
    subst this
    exact zy _ _ _
   |false=>rw[h']at hy;cases hy
theorem zo8 (hX:XOk X) (hnr:NR N S w) {h:zg} (hh:HR N S w h) {a:Act} {o:Oper} {t:Nat} {x y:Operand} (ho:o.op = .store t x y) {p v:TV} (hp:RepT N S w p (a.eval x)) (hv:RepT N S w v (a.eval y)) :
  (zrX X h t p v).Sound X.P N S w (execOp a.eval o):=by
 have hexec:∀(ad:Addr) w',a.eval x = .pointer (some ad)->(storeVar t ad (a.eval y)).run X.P w = .ok () w'->(execOp a.eval o).run X.P w = .ok .skip w':=by
  intro ad w' hx h;unfold execOp;rw[ho]
  simp[Instr.storeAt,hx,Instr.sureAddr,h]
 have htup:∀N' w',RepT N' S w' (.tup []) undef:=fun N' w'=>.tup [] #[] rfl (by simp)
 unfold zrX
 split
 ·rename_i b i off vs hcs
  have hcr:=zj1 hv hcs
  cases hc:((X.ty t).ok&&Nat.beq vs.length (X.ty t).size) with
  |false=>trivial
  |true=>
   simp only[Bool.and_eq_true]at hc
   have hsz:(a.eval y).cells.size=(X.ty t).size:=by rw[←Nat.eq_of_beq_eq_true hc.2,hcr.1];simp
   simp only[cond_true]
   split
   ·rename_i cs hb
    cases i with
    |succ i=>trivial
    |zero=>
     simp only
     cases hle:Nat.ble (off+vs.length) cs.length with
     |false=>trivial
     |true=>
      have hle:=Nat.le_of_ble_eq_true hle
      obtain⟨r,cur,T,h1,h2,h3⟩:=hh b _ hb
      cases hp with|c _ _ hp=>
      obtain⟨r',hr',hpv⟩:=zcp hp (by rw[h1];simp)
      rw[h1]at hr'
      cases hr'
      rw[Nat.zero_mul,Nat.zero_add]at hpv
      have hlen:cs.length=cur.size:=by simpa using h3.1
      have hst:=zcq (P:=X.P) hX hc.1 r.blk off cur T h2 (a.eval y) hsz (by rw[←hlen];have:=hcr.1;simp at this;omega) (zd5 hcr)
      have hwx:=zcF w r.blk cur ((cur.toList.take off++(a.eval y).cells.toList++cur.toList.drop (off+(a.eval y).cells.toList.length)).toArray) T h2
      refine⟨undef,_,N,.inr ⟨hexec _ _ hpv hst,rfl⟩,htup _ _,zes hnr h1 hwx ?_⟩
      refine⟨r,_,T,h1,setRow_heap w r.blk cur _ T _ h2,?_⟩
      have:=zf6 h3 hcr off
      simpa using this.keep (zey h1 hwx) (.refl _ _)
   ·rename_i k l hb
    split
    ·rename_i z hfit
     cases hle:Nat.ble (off+vs.length) k.size with
     |false=>trivial
     |true=>
      have hle:=Nat.le_of_ble_eq_true hle
      intro hi
      obtain⟨hm,⟨hn,hl⟩|⟨r,cur,T,h1,h2,h3,h4,h5,h6,h7⟩⟩:=hh b _ hb
      ·subst hl;simp at hi
      ·cases hp with|c _ _ hp=>
       obtain⟨r',hr',hpv⟩:=zcp hp (by rw[h1];simp)
       rw[h1]at hr'
       cases hr'
       rw[h2]at hpv
       have hvl:=hcr.1
       have hvl' : (a.eval y).cells.size=vs.length:=by simpa using hvl.symm
       have hle1:i*k.size+k.size<=l.length*k.size:=by rw[←Nat.succ_mul];exact Nat.mul_le_mul_right _ hi
       have hle2:l.length*k.size<=r.cap*k.size:=Nat.mul_le_mul_right _ h4
       have hst:=zcq (P:=X.P) hX hc.1 r.blk (i*k.size+off) cur T h5 (a.eval y) hsz (by omega) (zd5 hcr)
       have hwx:=zcF w r.blk cur ((cur.toList.take (i*k.size+off)++(a.eval y).cells.toList++cur.toList.drop (i*k.size+off+(a.eval y).cells.toList.length)).toArray) T h5
       refine⟨undef,_,N,.inr ⟨hexec _ _ hpv hst,rfl⟩,htup _ _,zes hnr h1 hwx ?_⟩
       have hcl:cur.toList.length=cur.size:=by simp
       refine⟨by simpa using hm,.inr ⟨r,_,T,h1,h2,by simp[h3],by simpa using h4,setRow_heap w r.blk cur _ T _ h5,?_,?_⟩⟩
       ·simp only[List.size_toArray,List.length_append,List.length_take,List.length_drop,hcl]
        simp only[Array.length_toList]
        omega
       ·have hel:=zkc k l _ h7 i hi
        have hnew:=zf8 hfit (zf6 (zc7 hel) hcr off)
        have htl:(cur.toList.take (l.length*k.size)).length=l.length*k.size:=by simp;omega
        have hall:=zjU k l _ h7 i hi z hnew
        have hsp:=zuW (cur.toList.take (l.length*k.size)) (i*k.size) k.size off (a.eval y).cells.toList (by rw[htl];exact hle1) (by simp;omega)
        rw[hsp]at hall
        have hfin:(cur.toList.take (i*k.size+off)++(a.eval y).cells.toList++cur.toList.drop (i*k.size+off+(a.eval y).cells.toList.length)).take (l.length*k.size) =
          (cur.toList.take (l.length*k.size)).take (i*k.size+off)++(a.eval y).cells.toList++(cur.toList.take (l.length*k.size)).drop (i*k.size+off+(a.eval y).cells.toList.length):=by
         rw[List.take_append,List.take_append,List.take_take,List.take_take]
         have c1:min (l.length*k.size) (i*k.size+off)=i*k.size+off:=by omega
         have c2:min (i*k.size+off) (l.length*k.size)=i*k.size+off:=by omega
         have c3:(cur.toList.take (i*k.size+off)).length=i*k.size+off:=by simp;omega
         rw[c1,c2,c3]
         rw[List.take_of_length_le (l:=(a.eval y).cells.toList) (by simp;omega)]
         congr 1
         rw[List.drop_take]
         congr 1
         simp only[List.length_append,c3]
        have hfin2:=hall.keep (zey (S:=S) h1 hwx) ((NExt.refl N w).oo S)
        rw[←hfin]at hfin2
        simpa using hfin2
    ·split
     ·rename_i b'
      cases hle:Nat.ble (off+1) k.size with
      |false=>trivial
      |true=>
       have hle:=Nat.le_of_ble_eq_true hle
       intro hi
       obtain⟨hm,⟨hn,hl⟩|⟨r,cur,T,h1,h2,h3,h4,h5,h6,h7⟩⟩:=hh b _ hb
       ·subst hl;simp at hi
       ·cases hp with|c _ _ hp=>
        obtain⟨r',hr',hpv⟩:=zcp hp (by rw[h1];simp)
        rw[h1]at hr'
        cases hr'
        rw[h2]at hpv
        obtain⟨v0,us,hus,hv0,hr0⟩:=zr hcr
        have hus:(a.eval y).cells.toList=[v0]:=by rw[hus,zaF hr0]
        have hvl' : (a.eval y).cells.size=1:=by rw[←Array.length_toList,hus];rfl
        have hle1:i*k.size+k.size<=l.length*k.size:=by rw[←Nat.succ_mul];exact Nat.mul_le_mul_right _ hi
        have hle2:l.length*k.size<=r.cap*k.size:=Nat.mul_le_mul_right _ h4
        have hst:=zcq (P:=X.P) hX hc.1 r.blk (i*k.size+off) cur T h5 (a.eval y) hsz (by omega) (zd5 hcr)
        rw[hus]at hst
        have hwx:=zcF w r.blk cur ((cur.toList.take (i*k.size+off)++[v0]++cur.toList.drop (i*k.size+off+1)).toArray) T h5
        refine⟨undef,_,N,.inr ⟨hexec _ _ hpv hst,rfl⟩,htup _ _,zes hnr h1 hwx ?_⟩
        have hcl:cur.toList.length=cur.size:=by simp
        refine⟨hm,hi,hle,r,_,T,h1,h2,h3,h4,setRow_heap w r.blk cur _ T _ h5,?_,?_⟩
        ·simp only[List.size_toArray,List.length_append,List.length_take,List.length_drop,hcl,List.length_singleton]
         omega
        ·have h9:=zn7 (zc7 h7) hv0 (i*k.size+off)
         rw[←zml _ _ _ _ (by rw[hcl];omega)]at h9
         simpa [hcells] using h9.keep (zey h1 hwx) (.refl _ _)
     ·trivial
   ·rename_i k l i0 off0 b0 hb
    split
    ·rename_i b'
     split
     ·rename_i k' l' hb'
      split
      ·rename_i z hfit
       cases hq:(Nat.beq off off0&&!Nat.beq b b') with
       |false=>trivial
       |true=>
        simp only[Bool.and_eq_true,Bool.not_eq_true']at hq
        have e1:=Nat.eq_of_beq_eq_true hq.1
        have hne:b≠b':=by rintro rfl;simp at hq
        subst e1
        intro e0
        have e0:i=i0:=e0
        subst e0
        obtain⟨hm,hi,hle,r,cur,T,h1,h2,h3,h4,h5,h6,h7⟩:=hh b _ hb
        cases hp with|c _ _ hp=>
        obtain⟨r',hr',hpv⟩:=zcp hp (by rw[h1];simp)
        rw[h1]at hr'
        cases hr'
        rw[h2]at hpv
        obtain⟨v0,us,hus,hv0,hr0⟩:=zr hcr
        have hus:(a.eval y).cells.toList=[v0]:=by rw[hus,zaF hr0]
        have hvl' : (a.eval y).cells.size=1:=by rw[←Array.length_toList,hus];rfl
        have hle1:i*k.size+k.size<=l.length*k.size:=by rw[←Nat.succ_mul];exact Nat.mul_le_mul_right _ hi
        have hle2:l.length*k.size<=r.cap*k.size:=Nat.mul_le_mul_right _ h4
        have hst:=zcq (P:=X.P) hX hc.1 r.blk (i*k.size+off) cur T h5 (a.eval y) hsz (by omega) (zd5 hcr)
        rw[hus]at hst
        have hwx:=zcF w r.blk cur ((cur.toList.take (i*k.size+off)++[v0]++cur.toList.drop (i*k.size+off+1)).toArray) T h5
        refine⟨undef,_,zbw N b' .dead,.inr ⟨hexec _ _ hpv hst,rfl⟩,htup _ _,zuO hnr h1 hne hwx ?_⟩
        have hcl:cur.toList.length=cur.size:=by simp
        refine⟨by simpa using hm,.inr ⟨r,_,T,by rw[zo _ _ hne];exact h1,h2,by simp[h3],by simpa using h4,setRow_heap w r.blk cur _ T _ h5,?_,?_⟩⟩
        ·simp only[List.size_toArray,List.length_append,List.length_take,List.length_drop,hcl,List.length_singleton]
         omega
        ·have hNx:NExt N (zbw N b' .dead) w:=by
          refine⟨fun c=>?_,fun q _ ⟨c,hc⟩=>?_⟩
          ·by_cases e:c=b'
           ·subst e;exact .inr (.inr (.inl (zy _ _ _)))
           ·exact .inr (.inl (zo _ _ e))
          ·by_cases e:c=b'
           ·subst e;rw[zy]at hc;exact hc.elim
           ·rw[zo _ _ e]at hc;exact⟨c,hc⟩
         have hz:=RepC.d (N:=zbw N b' .dead) (S:=S) (w:=w) _ _ (zsc hnr hh hb' hv0)
         have h9:=zn7 (h7.keep (WExt.refl _ w) hNx) hz (i*k.size+off)
         rw[←zml _ _ _ _ (by rw[hcl];omega)]at h9
         unfold hcells at h9
         rw[List.set_set]at h9
         have hlive:zbw N b' .dead b = .live r:=by rw[zo _ _ hne];exact h1
         have h10:=(zuu hi hle hfit h9).keep (zey (S:=S) hlive hwx) ((NExt.refl _ w).oo S)
         simpa using h10
      ·trivial
     ·trivial
    ·trivial
   ·trivial
 ·trivial
end
section
variable {X:Ctx} {N:zm} {S:Nat->Prop} {w:World}
structure Src (N:zm) (S:Nat->Prop) (w:World) (k:EK) (ys:List k.T) (v:Value):Prop where
 ex:∃b c news,v = .slice b ys.length c/\RepL (OO N S) w (ys.flatMap k.enc) news/\(∀ad,b=some ad->news≠[]->ad.spot=none/\zdX w ad news)/\(b=none->news=[])
 small:ys.length<=zE
theorem EK.pos (k:EK):0<k.size:=by cases k<;>simp[EK.size]
theorem ziG (k:EK) (a:Option Addr) (c:Nat):Src N S w k [] (.slice a 0 c):=
 ⟨⟨a,c,[],rfl,repL_nil,fun _ _ h=>absurd rfl h,fun _=>rfl⟩,Nat.zero_le _⟩
theorem zrg {h:zg} (hh:HR N S w h) {k:EK} {y:CV} {ys:List k.T} {v:Value} (he:zez h k y=some ys) (hr:RepC N S w y v):Src N S w k ys v:=by
 unfold zez at he
 split at he
 ·cases he
  have:=(za9 hr).1
  subst this
  exact ziG k none 0
 ·rename_i k' l
  split at he
  ·rename_i e
   subst e
   cases he
   cases zX hr with
   |slnil _ a c=>exact ziG _ a c
   |sl _ _ ad c vs hoo hs hcc hm hl hr' hw=>exact⟨⟨some ad,c,vs,rfl,⟨hl,hr'⟩,fun ad' e _=>by cases e;exact⟨hs,hw⟩,fun e=>by cases e⟩,hm⟩
  ·cases he
 ·rename_i b
  split at he
  ·rename_i k' l hb
   split at he
   ·rename_i e
    subst e
    cases he
    obtain⟨hm,⟨hn,hl⟩|⟨r,ws,T,h1,h2,h3,h4,h5,h6,h7⟩⟩:=hh b _ hb
    ·cases hr with
     |own0 _ a _=>subst hl;exact ziG _ a 0
     |own _ r hr=>rw[hn]at hr;cases hr
     |ownD _ _ hd _=>rw[hn]at hd;cases hd
    ·cases hr with
     |own0 _ a hd=>rw[h1]at hd;cases hd
     |ownD _ _ hd _=>rw[h1]at hd;cases hd
     |own _ r' hr'=>
      rw[h1]at hr'
      cases hr'
      rw[zaE h2,h3]
      refine⟨⟨_,_,_,rfl,h7,fun ad e _=>?_,fun e=>by cases e⟩,hm⟩
      cases e
      exact⟨rfl,zan h5 0 _ fun j v hv=>by rw[List.getElem?_take]at hv;split at hv;simpa using hv;cases hv⟩
   ·cases he
  ·cases he
 ·rename_i b o n
  split at he
  ·rename_i k' l hb
   split at he
   ·rename_i e
    subst e
    cases he
    obtain⟨hm,⟨hn,hl⟩|⟨r,ws,T,h1,h2,h3,h4,h5,h6,h7⟩⟩:=hh b _ hb
    ·subst hl
     cases hr with
     |view0 _ _ a _=>rw[List.take_zero];exact ziG _ a 0
     |view _ _ _ c r hr=>rw[hn]at hr;cases hr
     |viewD _ _ _ _ hd _=>rw[hn]at hd;cases hd
    ·cases hr with
     |view0 _ _ a _=>rw[List.take_zero];exact ziG _ a 0
     |viewD _ _ _ _ hd _=>rw[h1]at hd;cases hd
     |view _ _ _ c r' hr' hc1 hc2 hc3=>
      rw[h1]at hr'
      cases hr'
      have hlen:((l.drop o).take n).length=n:=by simp;omega
      refine⟨⟨some ⟨r.blk,o*r.esz,none⟩,c,((ws.toList.take (l.length*k'.size)).drop (o*k'.size)).take (n*k'.size),by rw[hlen],?_,fun ad e _=>?_,fun e=>by cases e⟩,by rw[hlen];omega⟩
      ·rw[zbe,zdg]
       exact zbK _ (zdb _ h7)
      ·cases e
       refine⟨rfl,?_⟩
       rw[h2]
       refine zan h5 _ _ fun j v hv=>?_
       rw[List.getElem?_take]at hv
       split at hv
       ·rw[List.getElem?_drop,List.getElem?_take]at hv
        split at hv
        ·simpa using hv
        ·cases hv
       ·cases hv
   ·cases he
  ·cases he
 ·cases he
theorem ztY {P:Program} {k:EK} {ys:List k.T} {v:Value} (hs:Src N S w k ys v):∃b c news,v = .slice b ys.length c/\RepL (OO N S) w (ys.flatMap k.enc) news/\news.length=ys.length*k.size /\
  ∀n,n<=ys.length->∀w',(∀a u,w.cell? a=some u->w'.cell? a=some u)->(Builtin.firstCells k.size n v).run P w' = .ok (news.take (n*k.size)).toArray w':=by
 obtain⟨b,c,news,rfl,hr,hc,hn⟩:=hs.ex
 have hlen:news.length=ys.length*k.size:=by rw[←hr.1,za1]
 refine⟨b,c,news,rfl,hr,hlen,fun n hle w' hw=>?_⟩
 have hle2:n*k.size<=news.length:=by rw[hlen];exact Nat.mul_le_mul_right _ hle
 have htl:(news.take (n*k.size)).length=n*k.size:=by simp;omega
 cases b with
 |none=>
  have:=hn rfl
  subst this
  simp[run_firstCells_none]
 |some ad=>
  by_cases he:news=[]
  ·subst he
   have h0:n*k.size=0:=by simpa using hle2
   have:=run_firstCells_some (P:=P) w' k.size n ad ys.length c [] (by simp[h0]) (by intro j v hv;simp at hv)
   simpa [h0] using this
  ·obtain⟨hs,hca⟩:=hc ad rfl he
   refine run_firstCells_some (P:=P) w' k.size n ad ys.length c _ htl fun j u hu=>?_
   rw[zgz hs]
   refine hw _ _ (hca j u ?_)
   rw[List.getElem?_take]at hu
   split at hu
   ·exact hu
   ·cases hu
theorem zeN (hnr:NR N S w) {base b:Nat} (hf:N base = .unused) (hb:N b≠.unused) (s:NS) {w' : World} (hw:WExt (fun k=>∃rb,N b = .live rb/\k=rb.blk) w w')
  (hblk:∀r,s = .live r->(r.blk=w.heap.size/\w.heap.size<w'.heap.size)\/(∃rb,N b = .live rb/\r.blk=rb.blk)) {x:AB} (hx:BR (zbw (zbw N b .dead) base s) S w' base x) (hst:∀T,s≠.tok T:=by intro T hT;cases hT) :
  Step N S w (zbw (zbw N b .dead) base s) w' [(base,x),(b,.dead)]:=by
 have hne:b≠base:=fun e=>hb (e▸hf)
 have hblk' : ∀k,s.has k->(k=w.heap.size/\w.heap.size<w'.heap.size)\/(∃rb,N b = .live rb/\k=rb.blk):=by
  intro k hk
  rcases NS.has_inv hk with⟨r,h1,rfl⟩|⟨T,h1,_⟩
  ·exact hblk r h1
  ·exact absurd h1 (hst T)
 have hl:∀c k,(zbw (zbw N b .dead) base s c).has k->(c=base/\s.has k)\/(c≠base/\c≠b/\(N c).has k):=by
  intro c q h
  by_cases e:c=base
  ·subst e;rw[zy]at h;exact .inl ⟨rfl,h⟩
  ·rw[zo _ _ e]at h
   by_cases e' : c=b
   ·subst e';rw[zy]at h;exact h.elim
   ·rw[zo _ _ e']at h;exact .inr ⟨e,e',h⟩
 have hnew:∀k,s.has k->∀c,c≠b->¬(N c).has k:=by
  intro k hr c hcb hq
  rcases hblk' k hr with⟨h1,_⟩|⟨rb,h1,h2⟩
  ·have:=(hnr.lt' c k hq).1;omega
  ·exact hcb (hnr.inj' c b k hq (by rw[h2];exact NS.has_live h1))
 refine⟨hw.mono ?_,⟨?_,?_,fun k hk=>Nat.lt_of_lt_of_le (hnr.sm k hk) hw.size⟩,⟨?_,?_⟩,?_,?_⟩
 ·rintro k _ ⟨rb,h1,rfl⟩
  refine⟨b,?_,NS.has_live h1⟩
  simp only[dom,zh]
  cases h:Nat.beq base b with
  |true=>rfl
  |false=>simp
 ·intro c c' k h h'
  rcases hl c k h with⟨rfl,h1⟩|⟨e1,e2,h1⟩
  ·rcases hl c' k h' with⟨rfl,_⟩|⟨_,e4,h2⟩
   ·rfl
   ·exact absurd h2 (hnew k h1 c' e4)
  ·rcases hl c' k h' with⟨rfl,h2⟩|⟨_,e4,h2⟩
   ·exact absurd h1 (hnew k h2 c e2)
   ·exact hnr.inj' c c' k h1 h2
 ·intro c k h
  rcases hl c k h with⟨rfl,h1⟩|⟨_,_,h1⟩
  ·rcases hblk' k h1 with⟨h2,h3⟩|⟨rb,h2,h3⟩
   ·exact⟨by omega,fun hs=>by have:=hnr.sm _ hs;omega⟩
   ·have:=hnr.lt b rb h2
    exact⟨by have:=hw.size;omega,by rw[h3];exact this.2⟩
  ·have:=hnr.lt' c k h1
   exact⟨Nat.lt_of_lt_of_le this.1 hw.size,this.2⟩
 ·intro c
  by_cases e:c=base
  ·subst e;exact .inl hf
  ·by_cases e' : c=b
   ·subst e';exact .inr (.inr (.inl (by rw[zo _ _ e,zy])))
   ·exact .inr (.inl (by rw[zo _ _ e,zo _ _ e']))
 ·rintro k hk ⟨c,h⟩
  rcases hl c k h with⟨_,h1⟩|⟨_,_,h1⟩
  ·rcases hblk' k h1 with⟨h2,_⟩|⟨rb,h2,h3⟩
   ·omega
   ·exact⟨b,by rw[h3];exact NS.has_live h2⟩
  ·exact⟨c,h1⟩
 ·intro c hc
  have e1:c≠base:=by rintro rfl;exact hc (by simp[dom,zh])
  have e2:c≠b:=by
   rintro rfl
   apply hc
   simp only[dom,zh]
   cases h:Nat.beq base c with
   |true=>rfl
   |false=>simp
  rw[zo _ _ e1,zo _ _ e2]
 ·intro c y hy
  simp only[zh]at hy
  cases h:Nat.beq base c with
  |true=>
   rw[h]at hy
   cases hy
   have:=Nat.eq_of_beq_eq_true h
   subst this
   exact hx
  |false=>
   rw[h]at hy
   cases h2:Nat.beq b c with
   |false=>rw[h2]at hy;cases hy
   |true=>
    rw[h2]at hy
    cases hy
    have:=Nat.eq_of_beq_eq_true h2
    subst this
    exact(zo _ _ hne).trans (zy _ _ _)
end
section
variable {X:Ctx} {N:zm} {S:Nat->Prop} {w:World}
theorem zor {X:Ctx} (hX:XOk X) {t k e:Nat} (h:(X.ty t).k = .mp k e):X.P.underlying t=some (.map k e):=by
 obtain⟨d,hd,hk⟩:=zh8 hX (zb4 hX (t:=t) (by rw[h];simp))
 rw[h]at hk
 cases d<;>simp[zbT]at hk
 rw[hd,hk.1,hk.2]
theorem zm5 (hnr:NR N S w) {base:Nat} (hf:N base = .unused) {a:Act} {o:Oper} {t:Nat} (ho:o.op = .makeMap t none) :
  zcQ X.P N S w (execOp a.eval o) (.c (.own base)) [(base,.map [])]:=by
 refine⟨.map (some w.heap.size),w.alloc (.map #[] 0),zbw N base (.live ⟨w.heap.size,0,0,0⟩),.inl ?_,?_,ziU hnr hf _ rfl (zbU w _) (by simp) ?_⟩
 ·unfold execOp;rw[ho]
  simp[Instr.makeMap,newObj,Sem.run]
 ·exact .c _ _ (by rw[←zia (r:=⟨w.heap.size,0,0,0⟩) rfl];exact .own base _ (zy N _ _))
 ·exact⟨_,#[],0,zy N _ _,rfl,Go.heap_alloc_new w _,rfl,fun i p e hp=>by simp at hp⟩
theorem zd1 (n:Int):∀(l:List (Int×CV)) (es:List MapEntry) (i:Nat),es.length=l.length->(∀(j:Nat) (p:Int×CV) (e:MapEntry),l[j]? = some p->es[j]? = some e->e.key = .int .i64 p.1) ->
  (∃j p e,l[j]? = some p/\es[j]? = some e/\p.1=n/\zkK l n=some p.2/\(∀x,zfc l n x=l.set j (n,x))/\Instr.findNow (.int .i64) (.int .i64 n) es i=some (some (i+j,e.val))) \/
  (zkK l n=none/\(∀x,zfc l n x=l++[(n,x)])/\Instr.findNow (.int .i64) (.int .i64 n) es i=some none)
 |[],es,i,hl,_=>by
  have:=List.eq_nil_of_length_eq_zero hl
  subst this
  exact .inr ⟨rfl,fun _=>rfl,rfl⟩
 |(k,y)::r,[],i,hl,_=>by simp at hl
 |(k,y)::r,e::es,i,hl,h=>by
  have hk:e.key = .int .i64 k:=h 0 (k,y) e rfl rfl
  by_cases hn:n=k
  ·subst hn
   refine .inl ⟨0,(n,y),e,rfl,rfl,rfl,by simp[zkK],fun x=>by simp[zfc],by simp[Instr.findNow,Instr.sameNow,hk]⟩
  ·have hb:(n==k)=false:=by simp[hn]
   rcases zd1 n r es (i+1) (by simpa using hl) (fun j p e' h1 h2=>h (j+1) p e' (by simpa using h1) (by simpa using h2)) with⟨j,p,e',h1,h2,h3,h4,h5,h6⟩|⟨h1,h2,h3⟩
   ·refine .inl ⟨j+1,p,e',by simpa using h1,by simpa using h2,h3,by simp[zkK,hb,h4],fun x=>by simp[zfc,hb,h5 x],?_⟩
    simp only[Instr.findNow,Instr.sameNow,hk,if_true,hb]
    rw[h6]
    congr 3
    omega
   ·exact .inr ⟨by simp[zkK,hb,h1],fun x=>by simp[zfc,hb,h2 x],by simp[Instr.findNow,Instr.sameNow,hk,hb,h3]⟩
theorem zeQ {P:Program} {r:Nat} {es:Array MapEntry} {c:Nat} (hb:w.heap[r]? = some (.map es c)):(getObj r).run P w = .ok (.map es c) w:=by simp[getObj,Sem.run,hb]
theorem zlD {P:Program} {r:Nat} {es:Array MapEntry} {c:Nat} (o:Obj) (hb:w.heap[r]? = some (.map es c)):(setObj r o).run P w = .ok () {w with heap:=w.heap.setIfInBounds r o}:=by simp[setObj,Sem.run,hb]
theorem zby {P:Program} {kt:Nat} (hk:P.underlying kt=some (.int .i64)) (n:Int) (es:List MapEntry) {x:Option (Nat×Value)} (h:Instr.findNow (.int .i64) (.int .i64 n) es 0=some x):(Instr.findKey kt (.int .i64 n) es).run P w = .ok x w:=by
 simp only[Instr.findKey,Sem.run_bind,run_underlying hk,Result.andThen_ok,h,Sem.run_pure]
theorem zbh {P:Program} {kt:Nat} (hk:P.underlying kt=some (.int .i64)) (e:Bool) (n:Int):(Instr.checkKey e 10000 kt (.int .i64 n)).run P w = .ok () w:=by
 have key:∀m,(Instr.checkKey e (m+1) kt (.int .i64 n)).run P w = .ok () w:=fun m=>by
  simp only[Instr.checkKey,Sem.run_bind,run_underlying hk,Result.andThen_ok,Sem.run_pure]
 exact key 9999
theorem zqV (w:World) (g:Nat) (o:Obj):WExt (fun k=>k=g) w {w with heap:=w.heap.setIfInBounds g o}:=
 ⟨rfl,rfl,rfl,by simp,fun k _ hk=>by simp[Array.getElem?_setIfInBounds,Ne.symm hk]⟩
theorem zhR (hX:XOk X) (hnr:NR N S w) {h:zg} (hh:HR N S w h) {a:Act} {o:Oper} {t:Nat} {x y z:Operand} (ho:o.op = .mapUpdate t x y z\/o.op = .insert t x y z) {m k v:TV} (hm:RepT N S w m (a.eval x)) (hk:RepT N S w k (a.eval y)) (hv:RepT N S w v (a.eval z)) :
  (zk2 X h t m k v).Sound X.P N S w (execOp a.eval o):=by
 unfold zk2
 split
 ·rename_i kt et b n cv ht
  split
  ·rename_i l hb hkt
   obtain⟨r,es,c,h1,h2,h3,h4,h5⟩:=hh b _ hb
   cases hv with|c _ _ hv=>
   cases hm with|c _ _ hm=>
   have ek:=zI hk
   generalize ev:a.eval z=zv at hv
   generalize em:a.eval x=mv at hm
   have hmv:mv = .map (some r.blk):=by
    cases hm with
    |own0 _ _ hd=>rw[h1]at hd;cases hd
    |ownD _ _ hd _=>rw[h1]at hd;cases hd
    |own _ r' hr'=>rw[h1]at hr';cases hr';exact zia h2
   subst hmv
   have hu:=zor hX ht
   have hki:=ze4 hX hkt
   have key:∃es' c',(Instr.mapUpdate t (.map (some r.blk)) (.int .i64 n) zv).run X.P w = .ok () {w with heap:=w.heap.setIfInBounds r.blk (.map es' c')}/\es'.size=(zfc l n cv).length /\
     ∀(i:Nat) (p:Int×CV) (e:MapEntry),(zfc l n cv)[i]? = some p->es'[i]? = some e->e.key = .int .i64 p.1/\RepC N S w p.2 e.val:=by
    rcases zd1 n l es.toList 0 (by simpa using h4) (fun j p e hp he=>(h5 j p e hp (by simpa using he)).1) with⟨j,p,e,g1,g2,g3,g4,g5,g6⟩|⟨g1,g2,g3⟩
    ·have g2' : es[j]? = some e:=by simpa using g2
     have hjl:j<es.size:=(Array.getElem?_eq_some_iff.1 g2').1
     refine⟨es.modify j fun e=>{e with key:=.int .i64 n,val:=zv},c,?_,?_,?_⟩
     ·have hkey:(Instr.keyThatStays (((es[j]?).map (·.key)).getD (.int .i64 n)) (.int .i64 n)).run X.P w = .ok (.int .i64 n) w:=by
       rw[g2']
       simp only[Option.map_some,Option.getD_some,(h5 j p e g1 g2').1,g3,Instr.keyThatStays,Instr.sameBits]
       simp
      rw[Nat.zero_add]at g6
      simp only[Instr.mapUpdate,Sem.run_bind,run_underlying hu,Result.andThen_ok,zeQ h3,zbh hki,zby hki n _ g6,hkey,zlD _ h3]
     ·rw[g5];simp[h4]
     ·intro i p' e' hp' he'
      rw[g5,List.getElem?_set]at hp'
      rw[Array.getElem?_modify]at he'
      by_cases hij:j=i
      ·subst hij
       rw[if_pos rfl,if_pos (by omega)]at hp'
       rw[if_pos rfl,g2']at he'
       cases hp'
       cases he'
       exact⟨rfl,hv⟩
      ·rw[if_neg hij]at hp' he'
       exact h5 i p' e' hp' he'
    ·refine⟨es.push {key:=.int .i64 n,val:=zv,born:=c},c+1,?_,?_,?_⟩
     ·simp only[Instr.mapUpdate,Sem.run_bind,run_underlying hu,Result.andThen_ok,zeQ h3,zbh hki,zby hki n _ g3,zlD _ h3]
     ·rw[g2];simp[h4]
     ·intro i p' e' hp' he'
      rw[g2]at hp'
      rw[Array.getElem?_push]at he'
      by_cases hil:i=es.size
      ·rw[if_pos hil]at he'
       rw[hil,h4,List.getElem?_append_right (Nat.le_refl _),Nat.sub_self]at hp'
       cases hp'
       cases he'
       exact⟨rfl,hv⟩
      ·rw[if_neg hil]at he'
       have hlt:i<es.size:=(Array.getElem?_eq_some_iff.1 he').1
       rw[List.getElem?_append_left (by omega)]at hp'
       exact h5 i p' e' hp' he'
   obtain⟨es',c',hrun,hsz,hpt⟩:=key
   have hwx:=zqV w r.blk (.map es' c')
   refine⟨undef,_,N,.inr ⟨?_,rfl⟩,.tup [] #[] rfl (by simp),zes hnr h1 hwx ⟨r,es',c',h1,h2,?_,hsz,fun i p e hp he=>⟨(hpt i p e hp he).1,(hpt i p e hp he).2.keep (zey h1 hwx) (.refl _ _)⟩⟩⟩
   ·rcases ho with ho|ho <;>
    ·unfold execOp;rw[ho]
     simp only[em,ek,ev,Sem.run_bind,hrun,Result.andThen_ok,Sem.run_pure]
   ·have:=(Array.getElem?_eq_some_iff.1 h3).1
    simp[Array.getElem?_setIfInBounds,this]
  ·trivial
 ·trivial
theorem zlh (n:Int):∀(l:List (Int×Bool)) (es:List MapEntry) (i:Nat),es.length=l.length->(∀(j:Nat) (p:Int×Bool) (e:MapEntry),l[j]? = some p->es[j]? = some e->e.key = .int .i64 p.1/\e.val = .bool p.2) ->
  (∃j,Instr.findNow (.int .i64) (.int .i64 n) es i=some (some (j,.bool (zc9 l n))))\/(zc9 l n=false/\Instr.findNow (.int .i64) (.int .i64 n) es i=some none)
 |[],es,i,hl,_=>by
  have:=List.eq_nil_of_length_eq_zero hl
  subst this
  exact .inr ⟨rfl,rfl⟩
 |(k,y)::r,[],i,hl,_=>by simp at hl
 |(k,y)::r,e::es,i,hl,h=>by
  obtain⟨hk,hy⟩:=h 0 (k,y) e rfl rfl
  by_cases hn:n=k
  ·subst hn
   exact .inl ⟨i,by simp[Instr.findNow,Instr.sameNow,hk,zc9,hy]⟩
  ·have hb:(n==k)=false:=by simp[hn]
   rcases zlh n r es (i+1) (by simpa using hl) (fun j p e' h1 h2=>h (j+1) p e' (by simpa using h1) (by simpa using h2)) with⟨j,h1⟩|⟨h1,h2⟩
   ·exact .inl ⟨j,by simp[zc9,hb,Instr.findNow,Instr.sameNow,hk,h1]⟩
   ·exact .inr ⟨by simp[zc9,hb,h1],by simp[Instr.findNow,Instr.sameNow,hk,hb,h2]⟩
theorem zqh (hX:XOk X) {t:Nat} (h:(X.ty t).ok=true):∃z,(zeroValue t).run X.P w = .ok z w/\(X.ty t).zero=z.cells.toList.map .lit/\((X.ty t).isAgg=false->z.oneCell' = true):=by
 obtain⟨j,z,h1,_,_,h2,h3,_,_,_,h4⟩:=(hX.ty t h).info
 refine⟨z,?_,h3,h4⟩
 simp[zeroValue,typeInfo,h1,h2]
theorem zhW (hX:XOk X) {t:Nat} (h:(X.ty t).k = .bool) (hz:(X.ty t).zero=[.lit (.bool false)]):(zeroValue t).run X.P w = .ok (.bool false) w:=by
 obtain⟨z,h1,h2,h3⟩:=zqh (w:=w) hX (zb4 hX (t:=t) (by rw[h];simp))
 have h3:=h3 (by unfold TI.isAgg;rw[h])
 rw[hz]at h2
 cases z<;>simp[Value.cells,Value.oneCell']at h2 h3
 rw[h1,h2]
theorem zok {b:Nat} {r:RL} {v:Value} (h1:N b = .live r) (h2:r.esz=0) (hm:RepC N S w (.own b) v):v = .map (some r.blk):=by
 cases hm with
 |own0 _ _ hd=>rw[h1]at hd;cases hd
 |ownD _ _ hd _=>rw[h1]at hd;cases hd
 |own _ r' hr'=>rw[h1]at hr';cases hr';exact zia h2
theorem zm8 (hX:XOk X) (hnr:NR N S w) {h:zg} (hh:HR N S w h) {a:Act} {o:Oper} {t:Nat} {x y:Operand} {is:Bool} (ho:o.op = .lookup t x y is) {m k:TV} (hm:RepT N S w m (a.eval x)) (hk:RepT N S w k (a.eval y)) :
  (zpg X h t m k is).Sound X.P N S w (execOp a.eval o):=by
 unfold zpg
 split
 ·rename_i kt et l n ht
  split
  ·rename_i hkt het hez
   have ek:=zI hk
   generalize em:a.eval x=mv at hm
   cases zdK hm with|mp _ r es c hn hb hl he=>
   have hu:=zor hX ht
   have hki:=ze4 hX hkt
   have hexec:∀v,(Instr.lookup t (.map (some r)) (.int .i64 n) false).run X.P w = .ok v w->(execOp a.eval o).run X.P w = .ok (.value v) w:=fun v hv=>by
    unfold execOp;rw[ho];refine zdR ?_;rw[em,ek];exact hv
   rcases zlh n l es.toList 0 (by simpa using hl) (fun j p e hp hee=>he j p e hp (by simpa using hee)) with⟨j,g⟩|⟨g1,g2⟩
   ·refine zj hnr (hexec _ ?_) (zV rfl)
    simp only[Instr.lookup,Sem.run_bind,run_underlying hu,Result.andThen_ok,zeQ hb,zbh hki,zby hki n _ g,Sem.run_pure]
    simp
   ·rw[g1]
    refine zj hnr (hexec _ ?_) (zV rfl)
    simp only[Instr.lookup,Sem.run_bind,run_underlying hu,Result.andThen_ok,zeQ hb,zbh hki,zby hki n _ g2,Sem.run_pure,zhW hX het hez]
    simp
  ·trivial
 ·rename_i kt et b n ht
  split
  ·rename_i l hb hkt het hez
   intro hall
   obtain⟨r,es,c,h1,h2,h3,h4,h5⟩:=hh b _ hb
   have ek:=zI hk
   cases hm with|c _ _ hm=>
   generalize em:a.eval x=mv at hm
   obtain rfl:=zok h1 h2 hm
   have hu:=zor hX ht
   have hki:=ze4 hX hkt
   have hexec:∀v,(Instr.lookup t (.map (some r.blk)) (.int .i64 n) false).run X.P w = .ok v w->(execOp a.eval o).run X.P w = .ok (.value v) w:=fun v hv=>by
    unfold execOp;rw[ho];refine zdR ?_;rw[em,ek];exact hv
   rcases zd1 n l es.toList 0 (by simpa using h4) (fun j p e hp he=>(h5 j p e hp (by simpa using he)).1) with⟨j,p,e,g1,g2,g3,g4,g5,g6⟩|⟨g1,g2,g3⟩
   ·obtain⟨bb,hbb⟩:=hall p (List.mem_of_getElem? g1)
    have hv:=(h5 j p e g1 (by simpa using g2)).2
    rw[hbb]at hv
    have hv:=(za9 hv).1
    have hg:zrz l n=bb:=by unfold zrz;rw[g4,hbb]
    rw[hg]
    refine zj hnr (hexec _ ?_) (zV rfl)
    simp only[Instr.lookup,Sem.run_bind,run_underlying hu,Result.andThen_ok,zeQ h3,zbh hki,zby hki n _ g6,Sem.run_pure,hv]
    simp
   ·have hg:zrz l n=false:=by unfold zrz;rw[g1]
    rw[hg]
    refine zj hnr (hexec _ ?_) (zV rfl)
    simp only[Instr.lookup,Sem.run_bind,run_underlying hu,Result.andThen_ok,zeQ h3,zbh hki,zby hki n _ g3,Sem.run_pure,zhW hX het hez]
    simp
  ·trivial
 ·rename_i kt et b n ht
  split
  ·rename_i l hb hkt het
   obtain⟨r,es,c,h1,h2,h3,h4,h5⟩:=hh b _ hb
   have ek:=zI hk
   cases hm with|c _ _ hm=>
   generalize em:a.eval x=mv at hm
   obtain rfl:=zok h1 h2 hm
   have hu:=zor hX ht
   have hki:=ze4 hX hkt
   have hexec:∀v,(Instr.lookup t (.map (some r.blk)) (.int .i64 n) true).run X.P w = .ok v w->(execOp a.eval o).run X.P w = .ok (.value v) w:=fun v hv=>by
    unfold execOp;rw[ho];refine zdR ?_;rw[em,ek];exact hv
   have hpair:∀(x:TV) (v:Value) (b:Bool),RepT N S w x v->RepT N S w (.tup [x,.bo b]) (.tuple #[v,.bool b]):=fun x v b hx=>
    .tup _ _ rfl fun i x' v' h1 h2=>match i,h1,h2 with
     |0,h1,h2=>by simp at h1 h2;subst h1 h2;exact hx
     |1,h1,h2=>by simp at h1 h2;subst h1 h2;exact zV rfl
     |_+2,h1,h2=>by simp at h1
   rcases zd1 n l es.toList 0 (by simpa using h4) (fun j p e hp he=>(h5 j p e hp (by simpa using he)).1) with⟨j,p,e,g1,g2,g3,g4,g5,g6⟩|⟨g1,g2,g3⟩
   ·rw[g4]
    have hv:=(h5 j p e g1 (by simpa using g2)).2
    refine zj hnr (hexec _ ?_) (hpair _ _ true (.c _ _ hv))
    simp only[Instr.lookup,Sem.run_bind,run_underlying hu,Result.andThen_ok,zeQ h3,zbh hki,zby hki n _ g6,Sem.run_pure]
    simp
   ·rw[g1]
    obtain⟨z,hz,_⟩:=zqh (w:=w) hX het
    refine zj hnr (hexec _ ?_) (hpair .any z false (.any _))
    simp only[Instr.lookup,Sem.run_bind,run_underlying hu,Result.andThen_ok,zeQ h3,zbh hki,zby hki n _ g3,Sem.run_pure,hz]
    simp
  ·trivial
 ·trivial
end
end Go.Abs
