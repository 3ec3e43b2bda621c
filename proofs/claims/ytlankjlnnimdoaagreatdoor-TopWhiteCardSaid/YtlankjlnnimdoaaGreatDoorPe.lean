/- Walks and plain laws: WDrop, WFreeN, WReap, WPages. -/
import Derived.Test.YtlankjlnnimdoaaGreatDoorPd
set_option linter.all false
namespace Go.Abs
def zej (a:Int) (x:Int×Int):Bool:=decide (x.1<=a/\a<x.1+x.2)
def cnt (L:List (Int×Int)) (a:Int):Nat:=(L.filter (zej a)).length
theorem zkz (L M:List (Int×Int)) (a:Int):cnt (L++M) a=cnt L a+cnt M a:=by unfold cnt;rw[List.filter_append,List.length_append]
theorem zvA {L:List (Int×Int)} {a:Int} (h:∀x∈L,zej a x=false):cnt L a=0:=by
 unfold cnt
 rw[List.filter_eq_nil_iff.2 fun x hx=>by rw[h x hx];simp]
 rfl
def zcK:Nat->List Page->List (Int×Int)
 |_,[]=>[]
 |i,p::r=>zH p (16*((i:Int)+1))++zcK (i+1) r
theorem zeO (l:List Page):∀(n i:Nat),l.length-i=n->zZ l i=zcK i (l.drop i)
 |0,i,h=>by
  rw[zdd (by omega),List.drop_eq_nil_of_le (by omega)]
  rfl
 |n+1,i,h=>by
  have hi:i<l.length:=by omega
  rw[zcG hi,List.drop_eq_getElem_cons hi]
  show _=zH l[i] (16*((i:Int)+1))++zcK (i+1) (l.drop (i+1))
  rw[←zeO l n (i+1) (by omega),List.getD_eq_getElem?_getD,List.getElem?_eq_getElem hi]
  rfl
theorem zid:∀(ps:List Page) (i:Nat),(∀p∈ps,zbu p)->∀x∈zcK i ps,16*((i:Int)+1)<=x.1
 |[],_,_,x,h=>by cases h
 |p::r,i,hp,x,h=>by
  rcases List.mem_append.1 h with h|h
  ·unfold zH at h
   split at h
   ·rw[List.mem_singleton]at h
    subst h
    exact Int.le_refl _
   ·split at h
    ·rename_i h2 h1
     obtain⟨k,_,rfl⟩:=List.mem_map.1 h
     have:=zh8 ((hp p (List.mem_cons_self ..)).1 h1)
     rcases this with⟨e,_⟩|⟨e,_⟩|⟨e,_⟩<;>· simp only[e];omega
    ·cases h
  ·have:=zid r (i+1) (fun q hq=>hp q (List.mem_cons_of_mem _ hq)) x h
   omega
theorem ztF {W N b a:Int} (hW:(W=2/\N=8)\/(W=4/\N=4)\/(W=8/\N=2)):cnt ((List.range N.toNat).map fun i:Nat=>(b+(i:Int)*W,W)) a=if b<=a/\a<b+16 then 1 else 0:=by
 have key:∀n:Nat,cnt ((List.range n).map fun i:Nat=>(b+(i:Int)*W,W)) a=if b<=a/\a<b+(n:Int)*W then 1 else 0:=by
  intro n
  induction n with
  |zero=>rw[if_neg (by omega)];rfl
  |succ n ih=>
   rw[List.range_succ,List.map_append,zkz,ih]
   have e:cnt [(b+(n:Int)*W,W)] a=if b+(n:Int)*W<=a/\a<b+(n:Int)*W+W then 1 else 0:=by
    unfold cnt
    rw[List.filter_cons,List.filter_nil]
    unfold zej
    by_cases h:b+(n:Int)*W<=a/\a<b+(n:Int)*W+W<;>simp[h]
   show _+cnt [(b+(n:Int)*W,W)] a=_
   rw[e]
   have e2:((n+1:Nat):Int)*W=(n:Int)*W+W:=by rw[Int.natCast_add,Int.add_mul];simp
   rw[e2]
   have h0:0<=(n:Int)*W:=Int.mul_nonneg (by omega) (by omega)
   have hWp:0<W:=by omega
   generalize (n:Int)*W=m at *
   split<;>split<;>split<;>omega
 rw[key]
 rcases hW with⟨rfl,rfl⟩|⟨rfl,rfl⟩|⟨rfl,rfl⟩<;>rfl
theorem zx7 {p:Page} {b a:Int} (hp:zbu p) (hf:zaj p=true):cnt (zH p b) a=if p.kind=2 then (if b<=a/\a<b+p.arg*16 then 1 else 0) else if p.kind=1 then (if b<=a/\a<b+16 then 1 else 0) else 0:=by
 unfold zH
 by_cases h2:p.kind=2
 ·rw[if_pos h2,if_pos h2]
  unfold cnt
  rw[List.filter_cons,List.filter_nil]
  unfold zej
  by_cases h:b<=a/\a<b+p.arg*16<;>simp[h]
 ·rw[if_neg h2,if_neg h2]
  by_cases h1:p.kind=1
  ·rw[if_pos h1,if_pos h1]
   exact ztF (zh8 (hp.1 h1))
  ·rw[if_neg h1,if_neg h1]
   rfl
def zmN (i:Nat) (ps:List Page) (a:Int):Nat:=if (ps.getD (a / 16-1-(i:Int)).toNat default).kind=0 then 1 else 0
theorem zxC:∀(ps:List Page) (i:Nat) (r:Int),pgo r ps=true->0<=r->(∀p∈ps,zbu p)->∀a,16*((i:Int)+1)<=a->a<16*((i:Int)+1+(ps.length:Int)) ->
  cnt (zcK i ps) a+zmN i ps a+(if a<16*((i:Int)+1+r) then 1 else 0)=1
 |[],i,r,_,_,_,a,h1,h2=>by simp at h2;omega
 |p::ps,i,r,h,hr,hp,a,h1,h2=>by
  have hlow:=zid ps (i+1) (fun q hq=>hp q (List.mem_cons_of_mem _ hq))
  have hpp:=hp p (List.mem_cons_self ..)
  have hl:((p::ps).length:Int)=(ps.length:Int)+1:=by simp
  rw[hl]at h2
  have ih:=fun r' (h' : pgo r' ps=true) (hr' : 0<=r')=>zxC ps (i+1) r' h' hr' (fun q hq=>hp q (List.mem_cons_of_mem _ hq)) a
  show cnt (zH p (16*((i:Int)+1))++zcK (i+1) ps) a+_+_=1
  rw[zkz]
  have hstep:16*((i:Int)+2)<=a->zmN i (p::ps) a=zmN (i+1) ps a:=by
   intro ha
   unfold zmN
   have e:(a / 16-1-(i:Int)).toNat=(a / 16-1-((i+1:Nat):Int)).toNat+1:=by omega
   rw[e]
   rfl
  have hhere:a<16*((i:Int)+2)->zmN i (p::ps) a=(if p.kind=0 then 1 else 0)/\cnt (zcK (i+1) ps) a=0:=by
   intro ha
   constructor
   ·unfold zmN
    have e:(a / 16-1-(i:Int)).toNat=0:=by omega
    rw[e]
    rfl
   ·refine zvA fun x hx=>?_
    have:=hlow x hx
    unfold zej
    apply decide_eq_false
    omega
  unfold pgo at h
  by_cases h3:p.kind=3
  ·rw[decide_eq_true h3]at h
   simp only[cond_true,Bool.and_eq_true,Bool.not_eq_true',decide_eq_false_iff_not]at h
   have hc:cnt (zH p (16*((i:Int)+1))) a=0:=by
    unfold zH
    rw[if_neg (by omega),if_neg (by omega)]
    rfl
   rw[hc]
   by_cases ha:a<16*((i:Int)+2)
   ·obtain⟨e1,e2⟩:=hhere ha
    rw[e1,e2,if_neg (by omega),if_pos (by omega)]
   ·have:=ih (r-1) h.2 (by omega) (by omega) (by omega)
    rw[hstep (by omega)]
    have e:(16*(((i+1:Nat):Int)+1+(r-1)))=16*((i:Int)+1+r):=by omega
    rw[e]at this
    omega
  ·rw[decide_eq_false h3]at h
   simp only[cond_false,Bool.and_eq_true,Bool.not_eq_true',decide_eq_false_iff_not]at h
   obtain⟨⟨hf,h0⟩,h⟩:=h
   have hr0:r=0:=by omega
   subst hr0
   rw[zx7 hpp hf]
   have hk:=of_decide_eq_true hf
   by_cases hk2:p.kind=2
   ·rw[if_pos hk2]at h ⊢
    have hpa:=hpp.2 hk2
    by_cases ha:a<16*((i:Int)+2)
    ·obtain⟨e1,e2⟩:=hhere ha
     rw[e1,e2,if_pos (by omega),if_neg (by omega),if_neg (by omega)]
    ·have:=ih (p.arg-1) h (by omega) (by omega) (by omega)
     rw[hstep (by omega)]
     have e:(16*(((i+1:Nat):Int)+1+(p.arg-1)))=16*((i:Int)+1+p.arg):=by omega
     rw[e]at this
     by_cases hb:a<16*((i:Int)+1+p.arg)
     ·rw[if_pos hb]at this
      rw[if_pos (by omega),if_neg (by omega)]
      omega
     ·rw[if_neg hb]at this
      rw[if_neg (by omega),if_neg (by omega)]
      omega
   ·rw[if_neg hk2]at h ⊢
    by_cases ha:a<16*((i:Int)+2)
    ·obtain⟨e1,e2⟩:=hhere ha
     rw[e1,e2]
     by_cases hk1:p.kind=1
     ·rw[if_pos hk1,if_pos (by omega),if_neg (by omega),if_neg (by omega)]
     ·rw[if_neg hk1,if_pos (by omega),if_neg (by omega)]
    ·have:=ih 0 h (by omega) (by omega) (by omega)
     rw[hstep (by omega)]
     have e:(16*(((i+1:Nat):Int)+1+0))=16*((i:Int)+2):=by omega
     rw[e,if_neg (by omega)]at this
     rw[if_neg (show ¬a<16*((i:Int)+1+0) by omega)]
     by_cases hk1:p.kind=1
     ·rw[if_pos hk1,if_neg (by omega)];omega
     ·rw[if_neg hk1];omega
def zbA (l:List Page) (i:Nat) (o:List Page):List Page:=zM l i (o.take (l.length-i))
def sizeP (p:Page):Nat:=if p.kind=2 then p.arg.toNat else 1
def zat (l:List Page) (i:Nat):List Page:=zbA l i (List.replicate (sizeP (l.getD i default)) ⟨0,0⟩)
theorem ziX {l o:List Page} {i:Nat} (h:i+o.length<=l.length):zbA l i o=l.take i++o++l.drop (i+o.length):=by
 unfold zbA zM
 rw[List.take_of_length_le (l:=o) (by omega)]
theorem zmw:∀(n:Nat) (t:List Page),pgo (n:Int) t=true->n<=t.length/\pgo 0 (t.drop n)=true/\∀j,j<n->t.getD j default=⟨3,0⟩
 |0,t,h=>⟨Nat.zero_le _,h,fun j hj=>absurd hj (by omega)⟩
 |n+1,[],h=>by rw[ztk (by omega)]at h;cases h
 |n+1,q::t,h=>by
  rw[zl2 (by omega),Bool.and_eq_true]at h
  obtain⟨h1,h2⟩:=h
  rw[show((n+1:Nat):Int)-1=(n:Int) by omega]at h2
  obtain⟨k1,k2,k3⟩:=zmw n t h2
  refine⟨by simp;omega,k2,fun j hj=>?_⟩
  cases j with
  |zero=>exact of_decide_eq_true h1
  |succ j=>exact k3 j (by omega)
theorem zi0 (t:List Page):∀n:Nat,pgo 0 (List.replicate n ⟨0,0⟩++t)=pgo 0 t
 |0=>rfl
 |n+1=>by
  rw[List.replicate_succ,List.cons_append]
  exact zi0 t n
theorem zle:∀(l:List Page) (i:Nat) (r:Int),pgo r l=true->0<=r->i<l.length->(l.getD i default).kind=1\/(l.getD i default).kind=2 ->
  i+sizeP (l.getD i default)<=l.length/\1<=sizeP (l.getD i default)/\pgo r (l.take i++List.replicate (sizeP (l.getD i default)) ⟨0,0⟩++l.drop (i+sizeP (l.getD i default)))=true/\∀j,i<j->j<i+sizeP (l.getD i default)->l.getD j default=⟨3,0⟩
 |[],i,r,_,_,h,_=>absurd h (by simp)
 |p::t,0,r,h,hr,hi,hk=>by
  have hk:p.kind=1\/p.kind=2:=hk
  unfold pgo at h
  rw[decide_eq_false (show ¬p.kind=3 by omega)]at h
  simp only[cond_false,Bool.and_eq_true]at h
  obtain⟨⟨h1,h2⟩,h3⟩:=h
  have hr0:r=0:=by simp at h2;omega
  subst hr0
  have hf:=of_decide_eq_true h1
  show 0+sizeP p<=(p::t).length/\1<=sizeP p/\pgo 0 (List.take 0 (p::t)++List.replicate (sizeP p) ⟨0,0⟩++(p::t).drop (0+sizeP p))=true/\∀j,0<j->j<0+sizeP p->(p::t).getD j default=⟨3,0⟩
  rcases hk with hk|hk
  ·have hs:sizeP p=1:=by unfold sizeP;rw[if_neg (by omega)]
   rw[if_neg (by omega)]at h3
   rw[hs]
   exact⟨by simp,Nat.le_refl _,(zi0 t 1).trans h3,fun j h1 h2=>absurd h2 (by omega)⟩
  ·rw[if_pos hk]at h3
   have hs:sizeP p=p.arg.toNat:=by unfold sizeP;rw[if_pos hk]
   have ha:1<=p.arg:=by omega
   obtain⟨n,hn⟩:∃n:Nat,p.arg.toNat=n+1:=⟨p.arg.toNat-1,by omega⟩
   rw[show p.arg-1=(n:Int) by omega]at h3
   obtain⟨k1,k2,k3⟩:=zmw n t h3
   rw[hs,hn]
   refine⟨by simp;omega,by omega,?_,fun j h1 h2=>?_⟩
   ·rw[List.take_zero,List.nil_append,zi0,Nat.zero_add,List.drop_succ_cons];exact k2
   ·obtain⟨m,rfl⟩:∃m,j=m+1:=⟨j-1,by omega⟩
    exact k3 m (by omega)
 |p::t,i+1,r,h,hr,hi,hk=>by
  have hk:(t.getD i default).kind=1\/(t.getD i default).kind=2:=hk
  have hi:i<t.length:=by simpa using hi
  have step:∀r',pgo r' t=true->0<=r'->_:=fun r' h' hr'=>zle t i r' h' hr' hi hk
  show i+1+sizeP (t.getD i default)<=(p::t).length/\1<=sizeP (t.getD i default)/\pgo r (List.take (i+1) (p::t)++List.replicate (sizeP (t.getD i default)) ⟨0,0⟩++(p::t).drop (i+1+sizeP (t.getD i default)))=true/\∀j,i+1<j->j<i+1+sizeP (t.getD i default)->(p::t).getD j default=⟨3,0⟩
  have e:i+1+sizeP (t.getD i default)=(i+sizeP (t.getD i default))+1:=by omega
  rw[e,List.take_succ_cons,List.drop_succ_cons,List.cons_append,List.cons_append]
  unfold pgo at h ⊢
  cases h3:decide (p.kind=3) with
  |true=>
   rw[h3]at h
   simp only[cond_true,Bool.and_eq_true]at h ⊢
   obtain⟨⟨h1,h2⟩,h4⟩:=h
   obtain⟨s1,s2,s3,s4⟩:=step _ h4 (by simp at h1;omega)
   refine⟨Nat.succ_le_succ s1,s2,⟨⟨h1,h2⟩,s3⟩,fun j hj1 hj2=>?_⟩
   obtain⟨m,rfl⟩:∃m,j=m+1:=⟨j-1,by omega⟩
   exact s4 m (Nat.lt_of_succ_lt_succ hj1) (Nat.lt_of_succ_lt_succ hj2)
  |false=>
   rw[h3]at h
   simp only[cond_false,Bool.and_eq_true]at h ⊢
   obtain⟨⟨h1,h2⟩,h4⟩:=h
   have hf:=of_decide_eq_true h1
   obtain⟨s1,s2,s3,s4⟩:=step _ h4 (by split<;>omega)
   refine⟨Nat.succ_le_succ s1,s2,⟨⟨h1,h2⟩,s3⟩,fun j hj1 hj2=>?_⟩
   obtain⟨m,rfl⟩:∃m,j=m+1:=⟨j-1,by omega⟩
   exact s4 m (Nat.lt_of_succ_lt_succ hj1) (Nat.lt_of_succ_lt_succ hj2)
structure Drops (l:List Page) (i:Nat):Prop where
 may:zao l=true
 lt:i<l.length
 kind:(l.getD i default).kind=1\/(l.getD i default).kind=2
namespace Drops
variable {l:List Page} {i:Nat}
theorem eq (h:Drops l i):zat l i=l.take i++List.replicate (sizeP (l.getD i default)) ⟨0,0⟩++l.drop (i+sizeP (l.getD i default)):=by
 have hm:=h.may;unfold zao at hm;rw[Bool.and_eq_true]at hm
 have:=(zle l i 0 hm.1 (Int.le_refl _) h.lt h.kind).1
 unfold zat
 rw[ziX (by simpa using this),List.length_replicate]
theorem all (h:Drops l i):i+sizeP (l.getD i default)<=l.length/\1<=sizeP (l.getD i default)/\pgo 0 (zat l i)=true/\∀j,i<j->j<i+sizeP (l.getD i default)->l.getD j default=⟨3,0⟩:=by
 have hm:=h.may;unfold zao at hm;rw[Bool.and_eq_true]at hm
 rw[h.eq]
 exact zle l i 0 hm.1 (Int.le_refl _) h.lt h.kind
theorem len (h:Drops l i):(zat l i).length=l.length:=by
 have h1:=h.all.1
 rw[h.eq]
 generalize sizeP (l.getD i default)=n at h1
 simp;omega
theorem may' (h:Drops l i):zao (zat l i)=true:=by
 have hm:=h.may;unfold zao at hm ⊢;rw[Bool.and_eq_true]at hm ⊢
 rw[h.len]
 exact⟨h.all.2.2.1,hm.2⟩
theorem get (h:Drops l i) (j:Nat):(zat l i).getD j default=if i<=j/\j<i+sizeP (l.getD i default) then ⟨0,0⟩ else l.getD j default:=by
 have h1:=h.all.1
 have hl:=h.lt
 rw[h.eq]
 generalize sizeP (l.getD i default)=n at h1
 simp only[List.getD_eq_getElem?_getD]
 by_cases c1:j<i
 ·rw[if_neg (by omega),List.append_assoc,List.getElem?_append_left (by simp;omega),List.getElem?_take_of_lt c1]
 ·rw[List.append_assoc,List.getElem?_append_right (by simp;omega)]
  have e1:(l.take i).length=i:=by simp;omega
  rw[e1]
  by_cases c2:j<i+n
  ·rw[if_pos ⟨by omega,c2⟩,List.getElem?_append_left (by simp;omega),List.getElem?_replicate,if_pos (by omega)];rfl
  ·rw[if_neg (by omega),List.getElem?_append_right (by simp;omega),List.getElem?_drop,List.length_replicate]
   congr 2;omega
theorem on (h:Drops l i) {j:Nat} (hj:j≠i) (x:Int):zH ((zat l i).getD j default) x=zH (l.getD j default) x:=by
 rw[h.get]
 split
 ·rename_i c
  rw[h.all.2.2.2 j (by omega) c.2];rfl
 ·rfl
theorem at_ (h:Drops l i) (x:Int):zH ((zat l i).getD i default) x=[]:=by
 rw[h.get,if_pos ⟨Nat.le_refl _,by have:=h.all.2.1;omega⟩];rfl
theorem keep (h:Drops l i) {j:Nat} (hj:j≠i) (hk:(l.getD j default).kind≠3):(zat l i).getD j default=l.getD j default:=by
 rw[h.get]
 split
 ·rename_i c
  rw[h.all.2.2.2 j (by omega) c.2]at hk;exact absurd rfl hk
 ·rfl
theorem cells (h:Drops l i):cellsAll (zat l i)=(cellsAll l).filter fun x=>decide (x.1 / 16-1≠(i:Int)):=by
 have hp:=(zag h.may).1
 unfold cellsAll
 rw[if_pos h.may',if_pos h.may]
 unfold zZ
 rw[h.len,List.drop_zero,List.filter_flatMap]
 rw[List.flatMap_def,List.flatMap_def]
 congr 1
 apply List.map_congr_left
 intro j hj
 have hj:j<l.length:=by simpa using hj
 by_cases e:j=i
 ·subst e
  rw[h.at_]
  symm
  rw[List.filter_eq_nil_iff]
  intro x hx
  have:=(zc2 hj (hp j hj) hx).div
  simp[this]
 ·rw[h.on e]
  symm
  rw[List.filter_eq_self]
  intro x hx
  have:=(zc2 hj (hp j hj) hx).div
  exact decide_eq_true (by omega)
theorem starts (h:Drops l i):cellStarts (zat l i)=(cellStarts l).filter fun a=>decide (a / 16-1≠(i:Int)):=by
 unfold cellStarts
 rw[h.cells,List.filter_map]
 rfl
theorem room (h:Drops l i) (a:Int):ze (zat l i) a=if a / 16-1=(i:Int) then 0 else ze l a:=by
 by_cases e:a / 16-1=(i:Int)
 ·rw[if_pos e]
  apply Classical.byContradiction
  intro hr
  have:=zn.2 hr
  rw[h.starts,List.mem_filter]at this
  exact of_decide_eq_true this.2 e
 ·rw[if_neg e]
  by_cases hr:ze l a=0
  ·rw[hr]
   apply Classical.byContradiction
   intro hr'
   have:=zn.2 hr'
   rw[h.starts,List.mem_filter]at this
   exact zn.1 this.1 hr
  ·have h1:=zq hr
   have h2:(a,ze l a)∈cellsAll (zat l i):=by
    rw[h.cells,List.mem_filter]
    exact⟨h1,decide_eq_true e⟩
   exact zby h2
end Drops
set_option maxRecDepth 8000
def zbc (g:Hp) (a:Int):List Int:=zM g.w (a-16).toNat (List.replicate (ze g.pages a).toNat (0:Int))
def pgI (a:Int):Int:=a / 16-1
def zgb (g:Hp) (i:Int):List Int:=zcx (g.free.at_ (g.pages.getD i.toNat default).arg) (16*(i+1)) (16*(i+1)+16) (g.free.at_ (g.pages.getD i.toNat default).arg).length
def zd3 (g:Hp) (i:Int):List Int:=zbj (g.free.at_ (g.pages.getD i.toNat default).arg) (16*(i+1)) (16*(i+1)+16) (g.free.at_ (g.pages.getD i.toNat default).arg).length
def zdq (g:Hp) (i:Int):Hp:=if ((zgb g i).length:Int)=clsN (g.pages.getD i.toNat default).arg then {g with free:=g.free.set_ (g.pages.getD i.toNat default).arg (zd3 g i),pages:=zat g.pages i.toNat} else g
def zm1 (g:Hp) (i a:Int):Hp:={g with free:=g.free.set_ (g.pages.getD i.toNat default).arg (g.free.at_ (g.pages.getD i.toNat default).arg++[a])}
def zfP (g:Hp) (a:Int):Hp:=if headE g a=0 then (if (g.pages.getD (pgI a).toNat default).kind=2 then {g with w:=zbc g a,pages:=zat g.pages (pgI a).toNat} else zdq (zm1 {g with w:=zbc g a} (pgI a) a) (pgI a)) else Hp.zero
theorem ze9:∀ {l m:List Int},l.Nodup->(∀x∈l,x∈m)->l.length<=m.length
 |[],_,_,_=>Nat.zero_le _
 |x::l,m,h,hs=>by
  rw[List.nodup_cons]at h
  have hx:=hs x (List.mem_cons_self ..)
  have:=ze9 (m:=m.erase x) h.2 fun y hy=>(List.mem_erase_of_ne (fun e:y=x=>h.1 (e▸hy))).2 (hs y (List.mem_cons_of_mem _ hy))
  rw[List.length_erase_of_mem hx]at this
  have:=List.length_pos_of_mem hx
  simp;omega
theorem zmE {g:Hp} (h:zw g []=true):(flats [g.free]).length<=512:=by
 obtain⟨h1,h2,h3,h4⟩:=zai h
 refine Nat.le_trans (ze9 h4 (m:=cellStarts g.pages) fun x hx=>?_) (by unfold cellStarts;rw[List.length_map];exact zb0 _)
 obtain⟨l,hl,hx⟩:=zcQ.1 hx
 exact zn.2 (by have:=(zdj (h2 l hl) hx).1;omega)
theorem zkU {g:Hp} (h:zw g []=true) (c:Int):(g.free.at_ c).length<=512:=by
 have:=zmE h
 unfold flats Lists.flat at this
 simp at this
 unfold Lists.at_
 split
 ·omega
 ·split<;>omega
theorem zdY {g:Hp} {a:Int} (h:headE g a=0):0<=pgI a/\Drops g.pages (pgI a).toNat:=by
 obtain⟨hm,hr,_⟩:=zG h
 obtain⟨hmp,j,hj⟩:=zac (zq hr)
 have e:pgI a=(j:Int):=hj.div
 rw[e]
 refine⟨by omega,hmp,hj.lt,?_⟩
 rcases hj.kind with h|h
 ·exact .inl h.1
 ·exact .inr h.1
theorem zaQ {g:Hp} {a:Int} (h:headE g a=0):zba g.w=true/\16<=a/\0<ze g.pages a/\a+ze g.pages a<=16+g.w.length:=by
 obtain⟨hm,hr,_⟩:=zG h
 obtain⟨hmw,hmp,hlen,_⟩:=zm (zF hm)
 obtain⟨_,j,hj⟩:=zac (zq hr)
 obtain⟨_,hd⟩:=zdY h
 have e:(pgI a).toNat=j:=by have:=hj.div;unfold pgI;omega
 rw[e]at hd
 have h1:=hj.lo
 have h2:=hj.hi
 have h3:=hj.lt
 have hb:=hd.all.1
 refine⟨hmw,by omega,hj.pos,?_⟩
 rcases hj.kind with⟨k1,k2,k3,k4,k5⟩|⟨k1,k2,k3,k4,k5⟩
 ·have:a+ze g.pages a<=16*((j:Int)+2):=k4
  omega
 ·have k4:a=16*((j:Int)+1):=k4
  have k5:ze g.pages a=(g.pages.getD j default).arg*16:=k5
  unfold sizeP at hb
  rw[if_pos k1]at hb
  omega
theorem zfb {g:Hp} {a:Int} (h:headE g a=0):(zbc g a).length=g.w.length:=by
 obtain⟨_,z2,z3,z4⟩:=zaQ h
 unfold zbc zM
 simp
 omega
theorem zxw {l m:List Int} (h:l.Nodup) (hs:∀x∈l,x∈m) (hl:m.length<=l.length):∀y∈m,y∈l:=by
 intro y hy
 apply Classical.byContradiction
 intro hn
 have:=ze9 (m:=m.erase y) h fun x hx=>(List.mem_erase_of_ne (fun e:x=y=>hn (e▸hx))).2 (hs x hx)
 rw[List.length_erase_of_mem hy]at this
 have:=List.length_pos_of_mem hy
 omega
theorem zbr {g:Hp} {cs:List Lists} (h:zw g cs=true):zw g []=true:=by
 obtain⟨h1,h2,h3,h4⟩:=zai h
 refine zdD h1 (fun l hl=>h2 l ?_) h3 ?_
 ·rw[List.mem_singleton.1 hl];exact List.mem_cons_self ..
 ·have e:flats (g.free::cs)=flats [g.free]++flats cs:=by unfold flats;simp
  rw[e]at h4
  exact(List.nodup_append.1 h4).1
theorem zI {h:Hp} {l:Lists}:zS h l=true↔∀d:Int,0<=d->d<=2->∀x∈l.at_ d,zL h d x=true:=by
 unfold zS
 simp only[Bool.and_eq_true,List.all_eq_true]
 constructor
 ·rintro⟨h0,h1,h2⟩ d hd0 hd2 x hx
  have:d=0\/d=1\/d=2:=by omega
  rcases this with rfl|rfl|rfl
  ·exact h0 x hx
  ·exact h1 x hx
  ·exact h2 x hx
 ·intro h
  exact⟨h 0 (by omega) (by omega),h 1 (by omega) (by omega),h 2 (by omega) (by omega)⟩
theorem zga {l:Lists} {x:Int}:x∈l.flat↔∃d:Int,0<=d/\d<=2/\x∈l.at_ d:=by
 unfold Lists.flat
 simp only[List.mem_append]
 constructor
 ·rintro ((h|h)|h)
  ·exact⟨0,by omega,by omega,h⟩
  ·exact⟨1,by omega,by omega,h⟩
  ·exact⟨2,by omega,by omega,h⟩
 ·rintro⟨d,h1,h2,h⟩
  have:d=0\/d=1\/d=2:=by omega
  rcases this with rfl|rfl|rfl
  ·exact .inl (.inl h)
  ·exact .inl (.inr h)
  ·exact .inr h
theorem zf1 {l:Lists} {c d:Int} {x:List Int} (hc:0<=c/\c<=2) (hd:0<=d/\d<=2):(l.set_ c x).at_ d=if d=c then x else l.at_ d:=by
 have h1:c=0\/c=1\/c=2:=by omega
 have h2:d=0\/d=1\/d=2:=by omega
 rcases h1 with rfl|rfl|rfl<;>rcases h2 with rfl|rfl|rfl<;>rfl
theorem zwB {l:Lists} {c:Int} {x:List Int} (hc:0<=c/\c<=2) (h:x.Sublist (l.at_ c)):(l.set_ c x).flat.Sublist l.flat:=by
 have h1:c=0\/c=1\/c=2:=by omega
 rcases h1 with rfl|rfl|rfl
 ·exact(List.Sublist.append (List.Sublist.append h (List.Sublist.refl _)) (List.Sublist.refl _))
 ·exact(List.Sublist.append (List.Sublist.append (List.Sublist.refl _) h) (List.Sublist.refl _))
 ·exact(List.Sublist.append (List.Sublist.append (List.Sublist.refl _) (List.Sublist.refl _)) h)
theorem zvv {l:Lists} {c a:Int} (hc:0<=c/\c<=2):(l.set_ c (l.at_ c++[a])).flat.Perm (a::l.flat):=by
 have h1:c=0\/c=1\/c=2:=by omega
 rcases h1 with rfl|rfl|rfl
 ·show((l.l0++[a])++l.l1++l.l2).Perm (a::(l.l0++l.l1++l.l2))
  simp only[List.append_assoc,List.singleton_append]
  exact List.perm_middle
 ·show((l.l0++(l.l1++[a]))++l.l2).Perm (a::(l.l0++l.l1++l.l2))
  simp only[List.append_assoc,List.singleton_append]
  rw[←List.append_assoc,←List.append_assoc]
  exact List.perm_middle
 ·show(l.l0++l.l1++(l.l2++[a])).Perm (a::(l.l0++l.l1++l.l2))
  rw[←List.append_assoc]
  exact List.perm_append_singleton _ _
theorem zaf {l:List Page} {x:Int×Int} (h:x∈cellsAll l):16<=x.1/\0<x.2/\x.1+x.2<=16*((l.length:Int)+1):=by
 obtain⟨hmp,j,hj⟩:=zac h
 have h1:=hj.lo
 have h2:=hj.hi
 have h3:=hj.lt
 refine⟨by omega,hj.pos,?_⟩
 rcases hj.kind with⟨k1,k2,k3,k4,k5⟩|⟨k1,k2,k3,k4,k5⟩
 ·omega
 ·have hb:=(Drops.all ⟨hmp,h3,.inr k1⟩).1
  unfold sizeP at hb
  rw[if_pos k1]at hb
  omega
theorem zlC {l:List Page} {x y:Int×Int} (hx:x∈cellsAll l) (hy:y∈cellsAll l) {p:Int} (h1:x.1<=p/\p<x.1+x.2) (h2:y.1<=p/\p<y.1+y.2):x=y:=by
 obtain⟨hmp,_⟩:=zac hx
 obtain⟨e1,_,e3⟩:=zaf hx
 have ht:=zxC l 0 0 (by unfold zao at hmp;rw[Bool.and_eq_true]at hmp;exact hmp.1) (Int.le_refl _) (fun p hp=>by
  obtain⟨i,hi,e⟩:=List.mem_iff_getElem.1 hp
  have:=(zag hmp).1 i hi
  rw[List.getD_eq_getElem?_getD,List.getElem?_eq_getElem hi]at this
  rw[←e];exact this) p (by omega) (by omega)
 have e0:cellsAll l=zcK 0 l:=by
  unfold cellsAll
  rw[if_pos hmp,zeO l _ 0 rfl]
  rfl
 rw[←e0]at ht
 have hc:((cellsAll l).filter (zej p)).length<=1:=by unfold cnt at ht;omega
 have m1:x∈(cellsAll l).filter (zej p):=List.mem_filter.2 ⟨hx,decide_eq_true h1⟩
 have m2:y∈(cellsAll l).filter (zej p):=List.mem_filter.2 ⟨hy,decide_eq_true h2⟩
 generalize (cellsAll l).filter (zej p)=L at hc m1 m2
 match L,hc,m1,m2 with
 |[],_,m1,_=>cases m1
 |[z],_,m1,m2=>rw[List.mem_singleton.1 m1,List.mem_singleton.1 m2]
 |_::_::_,hc,_,_=>simp at hc
theorem zpA {l:List Page} {a u f:Int} (ha:ze l a≠0) (hu:ze l u≠0) (hne:u≠a) (hf:0<=f/\f<ze l u):¬(a<=u+f/\u+f<a+ze l a):=by
 intro h
 have:=zlC (zq ha) (zq hu) (p:=u+f) h ⟨by show u<=_;omega,by show _<u+_;omega⟩
 exact hne (congrArg Prod.fst this).symm
theorem zmt {g:Hp} {a u:Int} (h:headE g a=0) (hu:16<=u) (p:List Page) (f:Lists) (cd:List Bool):zf ⟨zbc g a,p,f,cd⟩ u=if a<=u/\u<a+ze g.pages a then 0 else zf g u:=by
 obtain⟨_,z2,z3,z4⟩:=zaQ h
 show at0 (zbc g a) (u-16).toNat=_
 unfold zbc zM zf
 rw[zgM,zgM]
 simp only[List.length_append,List.length_take,List.length_replicate]
 by_cases c1:u<a
 ·rw[if_pos (by omega),if_pos (by omega),if_neg (by omega),ziT _ _ _ (by omega)]
 ·by_cases c2:u<a+ze g.pages a
  ·rw[if_pos (by omega),if_neg (by omega),if_pos ⟨by omega,c2⟩]
   unfold at0
   rw[List.getD_eq_getElem?_getD,List.getElem?_replicate]
   split<;>rfl
  ·rw[if_neg (by omega),if_neg (by omega),zir]
   congr 1
   omega
theorem zof {g:Hp} {a u f:Int} (h:headE g a=0) (hu:ze g.pages u≠0) (hne:u≠a) (hf:0<=f/\f<ze g.pages u) (p:List Page) (fr:Lists) (cd:List Bool):zf ⟨zbc g a,p,fr,cd⟩ (u+f)=zf g (u+f):=by
 rw[zmt h (by have:=(zaf (zq hu)).1;have:16<=u:=this;omega),if_neg (zpA (zG h).2.1 hu hne hf)]
theorem zek {g:Hp} {a u:Int} (h:headE g a=0) (hu:ze g.pages u≠0) (hne:u≠a) (p:List Page) (fr:Lists) (cd:List Bool):zf ⟨zbc g a,p,fr,cd⟩ u=zf g u:=by
 have:=zof h hu hne (f:=0) ⟨Int.le_refl _,by have:=(zaf (zq hu)).2.1;exact this⟩ p fr cd
 rwa [Int.add_zero]at this
theorem zgK {g:Hp} {a:Int} (h:headE g a=0) (p:List Page) (fr:Lists) (cd:List Bool):zf ⟨zbc g a,p,fr,cd⟩ a=0:=by
 obtain⟨_,z2,z3,z4⟩:=zaQ h
 rw[zmt h z2,if_pos ⟨Int.le_refl _,by omega⟩]
theorem zfA {l:List Page} {u:Int} (h:u∈cellStarts l):∃j:Nat,CellOf l (u,ze l u) j/\u / 16-1=(j:Int):=by
 obtain⟨_,j,hj⟩:=zac (zq (zn.1 h))
 exact⟨j,hj,hj.div⟩
theorem zmW {h:Hp} {i:Nat} (hd:Drops h.pages i) {u:Int} (hu:u∈cellStarts h.pages) (hi:u / 16-1≠(i:Int)) (w:List Int) (F:Lists) (cd:List Bool):zQ ⟨w,zat h.pages i,F,cd⟩ u=zQ h u:=by
 obtain⟨j,hj,e⟩:=zfA hu
 unfold zQ
 show(zat h.pages i).getD (u / 16-1).toNat default=_
 rw[e,Int.toNat_natCast]
 refine hd.keep (by omega) ?_
 rcases hj.kind with k|k<;>omega
theorem zkI {h:Hp} {i:Nat} {F:Lists} {cs:List Lists} (hs:zD h=true) (hd:Drops h.pages i) (hz:∀u∈cellStarts h.pages,u / 16-1=(i:Int)->zf h u=0)
  (hl:∀l∈F::cs,∀d:Int,0<=d->d<=2->∀x∈l.at_ d,zL h d x=true/\x / 16-1≠(i:Int)) (hc:∀u∈cellStarts h.pages,u / 16-1≠(i:Int)->zah h u=true) (hn:(flats (F::cs)).Nodup) :
  zw ⟨h.w,zat h.pages i,F,h.cards⟩ cs=true/\((∀u∈cellStarts h.pages,u / 16-1≠(i:Int)->zf h u≠0\/u∈flats (F::cs))->zt ⟨h.w,zat h.pages i,F,h.cards⟩ cs=true) /\
  zaa ⟨h.w,zat h.pages i,F,h.cards⟩=(cellStarts h.pages).filter fun u=>zf h u != 0:=by
 have hw:∀u,zf ⟨h.w,zat h.pages i,F,h.cards⟩ u=zf h u:=fun _=>rfl
 have hst:∀u,u∈cellStarts (zat h.pages i)↔u∈cellStarts h.pages/\u / 16-1≠(i:Int):=fun u=>by rw[hd.starts,List.mem_filter,decide_eq_true_eq]
 have hm:zw ⟨h.w,zat h.pages i,F,h.cards⟩ cs=true:=by
  refine zdD ?_ ?_ ?_ hn
  ·obtain⟨a1,a2,a3,a4,_⟩:=zm hs
   unfold zD
   rw[a1,hd.may']
   show(true&&(true&&decide (h.w.length=16*(zat h.pages i).length/\h.cards.length=2*(zat h.pages i).length)))=true
   rw[hd.len,decide_eq_true ⟨a3,a4⟩]
   rfl
  ·intro l hll
   refine zI.2 fun d h0 h2 x hx=>?_
   obtain⟨k1,k2⟩:=hl l hll d h0 h2 x hx
   obtain⟨r1,r2,r3⟩:=(of_decide_eq_true k1:0<ze h.pages x/\zQ h x=⟨1,d⟩/\zf h x=0)
   have hx:=zn.2 (show ze h.pages x≠0 by omega)
   refine decide_eq_true ⟨?_,?_,r3⟩
   ·show 0<ze (zat h.pages i) x
    rw[hd.room,if_neg k2];exact r1
   ·rw[zmW hd hx k2];exact r2
  ·intro u hu
   obtain⟨u1,u2⟩:=(hst u).1 hu
   have:=hc u u1 u2
   unfold zah at this ⊢
   rw[zmW hd u1 u2,hw]
   exact this
 refine⟨hm,fun hwh=>?_,?_⟩
 ·unfold zt
  rw[hm,Bool.true_and,List.all_eq_true]
  intro u hu
  obtain⟨u1,u2⟩:=(hst u).1 hu
  rw[hw,Bool.or_eq_true]
  rcases hwh u u1 u2 with k|k
  ·exact .inl (by simpa using k)
  ·exact .inr (List.contains_iff_mem.2 k)
 ·rw[zb9 (zbr hm)]
  show(cellStarts (zat h.pages i)).filter (fun u=>zf h u != 0)=_
  rw[hd.starts,List.filter_filter]
  apply List.filter_congr
  intro u hu
  by_cases e:u / 16-1=(i:Int)
  ·rw[hz u hu e];rfl
  ·rw[decide_eq_true e,Bool.and_true]
structure Freed (g k:Hp) (a:Int) (cs:List Lists):Prop where
 may:zw k cs=true
 whole:zt g cs=true->zt k cs=true
 used:zaa k=(zaa g).filter fun u=>decide (u≠a)
 cards:k.cards=g.cards
 wlen:k.w.length=g.w.length
 plen:k.pages.length=g.pages.length
 word:∀u,u≠a->ze g.pages u≠0->∀f,0<=f->f<ze g.pages u->zf k (u+f)=zf g (u+f)
 room:∀u,ze k.pages u≠0->ze k.pages u=ze g.pages u
 starts:(cellStarts k.pages).Sublist (cellStarts g.pages)
theorem zgS {g:Hp} {cs:List Lists} (hm:zw g cs=true) {a:Int} (h:headE g a=0):zf g a≠0:=by
 have:=zaJ.2 h
 rw[zb9 (zbr hm),List.mem_filter]at this
 simpa using this.2
theorem znc {g:Hp} {cs:List Lists} (hm:zw g cs=true) {a:Int} (h:headE g a=0) (fr:Lists) (cd:List Bool) :
  (cellStarts g.pages).filter (fun u=>zf ⟨zbc g a,g.pages,fr,cd⟩ u != 0)=(zaa g).filter fun u=>decide (u≠a):=by
 rw[zb9 (zbr hm),List.filter_filter]
 apply List.filter_congr
 intro u hu
 by_cases e:u=a
 ·subst e
  rw[zgK h,decide_eq_false (fun k=>k rfl)];rfl
 ·rw[zek h (zn.1 hu) e,decide_eq_true e,Bool.true_and]
theorem zqu {g:Hp} {cs:List Lists} (hm:zw g cs=true) {a:Int} (h:headE g a=0) (hk:(g.pages.getD (pgI a).toNat default).kind=2) :
  Freed g ⟨zbc g a,zat g.pages (pgI a).toNat,g.free,g.cards⟩ a cs:=by
 obtain⟨m1,m2,m3,m4⟩:=zai hm
 obtain⟨hn0,hd⟩:=zdY h
 have ei:((pgI a).toNat:Int)=pgI a:=by omega
 have hr:=(zG h).2.1
 have hpg:∀u∈cellStarts g.pages,u / 16-1=((pgI a).toNat:Int)->u=a:=by
  intro u hu e
  obtain⟨j,hj,ej⟩:=zfA hu
  obtain⟨j',hj',ej'⟩:=zfA (zn.2 hr)
  have e2:j=(pgI a).toNat:=by omega
  have e3:j' = (pgI a).toNat:=by unfold pgI at *;omega
  subst e2
  rw[e3]at hj'
  have k1:u=16*(((pgI a).toNat:Int)+1):=by rcases hj.kind with k|k;omega;exact k.2.2.2.1
  have k2:a=16*(((pgI a).toNat:Int)+1):=by rcases hj'.kind with k|k;omega;exact k.2.2.2.1
  omega
 have hst:∀l∈g.free::cs,∀d:Int,0<=d->d<=2->∀x∈l.at_ d,0<ze g.pages x/\zQ g x=⟨1,d⟩/\zf g x=0:=fun l hl d h0 h2 x hx=>of_decide_eq_true (zI.1 (m2 l hl) d h0 h2 x hx)
 have key:=zkI (h:=⟨zbc g a,g.pages,g.free,g.cards⟩) (i:=(pgI a).toNat) (F:=g.free) (cs:=cs) ?_ hd ?_ ?_ ?_ m4
 ·obtain⟨k1,k2,k3⟩:=key
  refine⟨k1,fun hwh=>k2 fun u hu e=>?_,k3.trans (znc hm h _ _),rfl,zfb h,hd.len,fun u hne hu f f0 f1=>zof h hu hne ⟨f0,f1⟩ _ _ _,fun u hu=>?_,?_⟩
  ·have hne:u≠a:=fun k=>by subst k;exact e (by unfold pgI;unfold pgI at ei;omega)
   rw[zek h (zn.1 hu) hne]
   unfold zt at hwh
   rw[hm,Bool.true_and,List.all_eq_true]at hwh
   have:=hwh u hu
   rw[Bool.or_eq_true]at this
   rcases this with k|k
   ·exact .inl (by simpa using k)
   ·exact .inr (List.contains_iff_mem.1 k)
  ·have:=hd.room u
   show ze (zat g.pages (pgI a).toNat) u=_
   rw[this]
   split
   ·rename_i e
    exact absurd (show ze (zat g.pages (pgI a).toNat) u=0 by rw[this,if_pos e]) hu
   ·rfl
  ·show(cellStarts (zat g.pages (pgI a).toNat)).Sublist _
   rw[hd.starts];exact List.filter_sublist
 ·obtain⟨a1,a2,a3,a4,_⟩:=zm m1
  have e:(zbc g a).length=g.w.length:=zfb h
  unfold zD
  show(zba (zbc g a)&&(zao g.pages&&decide ((zbc g a).length=16*g.pages.length/\g.cards.length=2*g.pages.length)))=true
  unfold zba at a1 ⊢
  rw[e,a1,a2,decide_eq_true ⟨a3,a4⟩];rfl
 ·intro u hu e
  rw[hpg u hu e];exact zgK h _ _ _
 ·intro l hl d h0 h2 x hx
  obtain⟨r1,r2,r3⟩:=hst l hl d h0 h2 x hx
  have hne:x≠a:=fun k=>zgS hm h (by rw[←k];exact r3)
  refine⟨decide_eq_true ⟨r1,r2,?_⟩,fun e=>hne (hpg x (zn.2 (by omega)) e)⟩
  rw[zek h (by omega) hne];exact r3
 ·intro u hu e
  have hne:u≠a:=fun k=>by subst k;exact e (by unfold pgI;unfold pgI at ei;omega)
  have:=m3 u hu
  unfold zah at this ⊢
  rw[zek h (zn.1 hu) hne]
  exact this
abbrev zc4 (g:Hp) (a:Int):Hp:=zm1 {g with w:=zbc g a} (pgI a) a
theorem zre {g:Hp} {cs:List Lists} (hm:zw g cs=true) {a:Int} (h:headE g a=0) (hk:(g.pages.getD (pgI a).toNat default).kind=1):Freed g (zc4 g a) a cs:=by
 obtain⟨m1,m2,m3,m4⟩:=zai hm
 obtain⟨hn0,hd⟩:=zdY h
 have hr:=(zG h).2.1
 have hc:=((zag hd.may).1 _ hd.lt).1 hk
 have hp:zQ g a=⟨1,(g.pages.getD (pgI a).toNat default).arg⟩:=by
  show g.pages.getD (pgI a).toNat default=_
  generalize g.pages.getD (pgI a).toNat default=p at hk
  cases p;cases hk;rfl
 have hst:∀l∈g.free::cs,∀d:Int,0<=d->d<=2->∀x∈l.at_ d,0<ze g.pages x/\zQ g x=⟨1,d⟩/\zf g x=0:=fun l hl d h0 h2 x hx=>of_decide_eq_true (zI.1 (m2 l hl) d h0 h2 x hx)
 have hkeep:∀l∈g.free::cs,∀d:Int,0<=d->d<=2->∀x∈l.at_ d,zL (zc4 g a) d x=true:=by
  intro l hl d h0 h2 x hx
  obtain⟨r1,r2,r3⟩:=hst l hl d h0 h2 x hx
  have hne:x≠a:=fun k=>zgS hm h (by rw[←k];exact r3)
  refine decide_eq_true ⟨r1,r2,?_⟩
  exact(zek h (by omega) hne _ _ _).trans r3
 have hperm:(flats ((zc4 g a).free::cs)).Perm (a::flats (g.free::cs)):=by
  show((g.free.set_ _ (g.free.at_ _++[a])).flat++flats cs).Perm (a::(g.free.flat++flats cs))
  exact(zvv hc).append_right _
 have hna:a ∉ flats (g.free::cs):=by
  intro k
  obtain⟨l,hl,hx⟩:=zcQ.1 k
  exact zgS hm h (zdj (m2 l hl) hx).2
 have hmay:zw (zc4 g a) cs=true:=by
  refine zdD ?_ ?_ ?_ (hperm.nodup_iff.2 (List.nodup_cons.2 ⟨hna,m4⟩))
  ·obtain⟨a1,a2,a3,a4,_⟩:=zm m1
   have e:(zbc g a).length=g.w.length:=zfb h
   unfold zD
   show(zba (zbc g a)&&(zao g.pages&&decide ((zbc g a).length=16*g.pages.length/\g.cards.length=2*g.pages.length)))=true
   unfold zba at a1 ⊢
   rw[e,a1,a2,decide_eq_true ⟨a3,a4⟩];rfl
  ·intro l hl
   rcases List.mem_cons.1 hl with rfl|hl
   ·refine zI.2 fun d h0 h2 x hx=>?_
    have hx:x∈(g.free.set_ (g.pages.getD (pgI a).toNat default).arg (g.free.at_ (g.pages.getD (pgI a).toNat default).arg++[a])).at_ d:=hx
    rw[zf1 hc ⟨h0,h2⟩]at hx
    split at hx
    ·rename_i e
     rcases List.mem_append.1 hx with hx|hx
     ·exact hkeep g.free (List.mem_cons_self ..) d h0 h2 x (by rw[e];exact hx)
     ·rw[List.mem_singleton.1 hx]
      exact decide_eq_true ⟨by have:=zc7 g.pages a;show 0<ze g.pages a;omega,by rw[e];exact hp,zgK h _ _ _⟩
    ·exact hkeep g.free (List.mem_cons_self ..) d h0 h2 x hx
   ·exact zI.2 fun d h0 h2 x hx=>hkeep l (List.mem_cons_of_mem _ hl) d h0 h2 x hx
  ·intro u hu
   have hu:u∈cellStarts g.pages:=hu
   by_cases e:u=a
   ·subst e
    unfold zah
    rw[show zf (zc4 g u) u=0 from zgK h _ _ _,show zQ (zc4 g u) u=zQ g u from rfl,hp,show zfN 0=true by decide,show(unp 0).used=false by decide]
    rfl
   ·have:=m3 u hu
    unfold zah at this ⊢
    rw[show zf (zc4 g a) u=zf g u from zek h (zn.1 hu) e _ _ _]
    exact this
 refine⟨hmay,fun hwh=>?_,?_,rfl,zfb h,rfl,fun u hne hu f f0 f1=>zof h hu hne ⟨f0,f1⟩ _ _ _,fun u hu=>rfl,List.Sublist.refl _⟩
 ·unfold zt
  rw[hmay,Bool.true_and,List.all_eq_true]
  intro u hu
  have hu:u∈cellStarts g.pages:=hu
  rw[Bool.or_eq_true]
  by_cases e:u=a
  ·exact .inr (List.contains_iff_mem.2 (hperm.mem_iff.2 (by rw[e];exact List.mem_cons_self ..)))
  ·rw[show zf (zc4 g a) u=zf g u from zek h (zn.1 hu) e _ _ _]
   unfold zt at hwh
   rw[hm,Bool.true_and,List.all_eq_true]at hwh
   have:=hwh u hu
   rw[Bool.or_eq_true]at this
   rcases this with k|k
   ·exact .inl k
   ·exact .inr (List.contains_iff_mem.2 (hperm.mem_iff.2 (List.mem_cons_of_mem _ (List.contains_iff_mem.1 k))))
 ·rw[zb9 (zbr hmay)]
  exact znc hm h _ _
theorem zow (g:Hp) (i:Int):zgb g i=(g.free.at_ (g.pages.getD i.toNat default).arg).filter (inP (16*(i+1)) (16*(i+1)+16)):=by
 unfold zgb zcx;rw[List.take_length]
theorem zkP (g:Hp) (i:Int):zd3 g i=(g.free.at_ (g.pages.getD i.toNat default).arg).filter fun x=>!inP (16*(i+1)) (16*(i+1)+16) x:=by
 unfold zd3 zbj;rw[List.take_length]
theorem zkN {i x:Int}:inP (16*(i+1)) (16*(i+1)+16) x=decide (x / 16-1=i):=by
 unfold inP
 rw[←Bool.decide_and]
 exact decide_eq_decide.2 (by omega)
def znN (p:Page) (i:Int):List Int:=(List.range (clsN p.arg).toNat).map fun k:Nat=>16*(i+1)+(k:Int)*clsW p.arg
theorem zkT {l:List Page} {u:Int} {i:Nat} (hu:u∈cellStarts l) (e:u / 16-1=(i:Int)) (hk:(l.getD i default).kind=1):u∈znN (l.getD i default) i:=by
 obtain⟨j,hj,ej⟩:=zfA hu
 have:j=i:=by omega
 subst this
 obtain⟨hmp,_⟩:=zac (zq (zn.1 hu))
 rcases zgt ((zag hmp).1 j hj.lt) hj.mem with⟨_,_,k,k1,k2⟩|⟨k,_⟩
 ·have k2:u=16*((j:Int)+1)+(k:Int)*clsW (l.getD j default).arg:=k2
  refine List.mem_map.2 ⟨k,List.mem_range.2 (by omega),k2.symm⟩
 ·omega
theorem zuN {g:Hp} {cs:List Lists} (hm:zw g cs=true) {i:Int} (h0:0<=i) (hd:Drops g.pages i.toNat) (hk:(g.pages.getD i.toNat default).kind=1) :
  ((zgb g i).length:Int)<=clsN (g.pages.getD i.toNat default).arg/\(((zgb g i).length:Int)=clsN (g.pages.getD i.toNat default).arg->∀u∈cellStarts g.pages,u / 16-1=i->u∈zgb g i):=by
 obtain⟨m1,m2,m3,m4⟩:=zai hm
 have hc:=((zag hd.may).1 _ hd.lt).1 hk
 have ei:((i.toNat:Nat):Int)=i:=by omega
 have hN:=zh8 hc
 have hlen:((znN (g.pages.getD i.toNat default) i).length:Int)=clsN (g.pages.getD i.toNat default).arg:=by
  unfold znN;rw[List.length_map,List.length_range];rcases hN with k|k|k<;>omega
 have hnd:(zgb g i).Nodup:=by
  rw[zow]
  apply List.Nodup.sublist List.filter_sublist
  have e:flats (g.free::cs)=g.free.flat++flats cs:=rfl
  rw[e]at m4
  have:=(List.nodup_append.1 m4).1
  have hc' : (g.pages.getD i.toNat default).arg=0\/(g.pages.getD i.toNat default).arg=1\/(g.pages.getD i.toNat default).arg=2:=by omega
  unfold Lists.flat at this
  rcases hc' with e|e|e<;>rw[e]
  ·exact(List.nodup_append.1 (List.nodup_append.1 this).1).1
  ·exact(List.nodup_append.1 (List.nodup_append.1 this).1).2.1
  ·exact(List.nodup_append.1 this).2.1
 have hsub:∀x∈zgb g i,x∈znN (g.pages.getD i.toNat default) i:=by
  intro x hx
  rw[zow,List.mem_filter,zkN,decide_eq_true_eq]at hx
  obtain⟨r1,_⟩:=(of_decide_eq_true (zI.1 (m2 g.free (List.mem_cons_self ..)) _ hc.1 hc.2 x hx.1):0<ze g.pages x/\_)
  have:=zkT (i:=i.toNat) (zn.2 (show ze g.pages x≠0 by omega)) (by omega) hk
  rw[ei]at this;exact this
 have hle:=ze9 hnd hsub
 refine⟨by omega,fun he u hu e=>?_⟩
 refine zxw hnd hsub (by omega) u ?_
 have:=zkT (i:=i.toNat) hu (by omega) hk
 rw[ei]at this;exact this
theorem zlj {g:Hp} {cs:List Lists} (hm:zw g cs=true) {i:Int} (h0:0<=i) (hd:Drops g.pages i.toNat) (hk:(g.pages.getD i.toNat default).kind=1) :
  zw (zdq g i) cs=true/\(zt g cs=true->zt (zdq g i) cs=true)/\zaa (zdq g i)=zaa g/\(zdq g i).cards=g.cards/\(zdq g i).w=g.w/\(zdq g i).pages.length=g.pages.length/\(∀u,ze (zdq g i).pages u≠0->ze (zdq g i).pages u=ze g.pages u)/\(cellStarts (zdq g i).pages).Sublist (cellStarts g.pages):=by
 unfold zdq
 split
 case isFalse=>exact⟨hm,id,rfl,rfl,rfl,rfl,fun _ _=>rfl,List.Sublist.refl _⟩
 rename_i hn
 obtain⟨m1,m2,m3,m4⟩:=zai hm
 have hc:=((zag hd.may).1 _ hd.lt).1 hk
 have ei:((i.toNat:Nat):Int)=i:=by omega
 have hall:=(zuN hm h0 hd hk).2 hn
 have hst:∀l∈g.free::cs,∀d:Int,0<=d->d<=2->∀x∈l.at_ d,0<ze g.pages x/\zQ g x=⟨1,d⟩/\zf g x=0:=fun l hl d h0 h2 x hx=>of_decide_eq_true (zI.1 (m2 l hl) d h0 h2 x hx)
 have harg:∀l∈g.free::cs,∀d:Int,0<=d->d<=2->∀x∈l.at_ d,x / 16-1=i->d=(g.pages.getD i.toNat default).arg:=by
  intro l hl d d0 d2 x hx e
  obtain⟨_,r2,_⟩:=hst l hl d d0 d2 x hx
  unfold zQ at r2
  rw[e]at r2
  rw[r2]
 have hof:∀u∈cellStarts g.pages,u / 16-1=i->u∈g.free.at_ (g.pages.getD i.toNat default).arg/\u∈g.free.flat:=by
  intro u hu e
  have:=hall u hu e
  rw[zow,List.mem_filter]at this
  exact⟨this.1,zga.2 ⟨_,hc.1,hc.2,this.1⟩⟩
 have hsub:(flats (g.free.set_ (g.pages.getD i.toNat default).arg (zd3 g i)::cs)).Sublist (flats (g.free::cs)):=by
  show((g.free.set_ _ (zd3 g i)).flat++flats cs).Sublist (g.free.flat++flats cs)
  exact(zwB hc (by rw[zkP];exact List.filter_sublist)).append (List.Sublist.refl _)
 have key:=zkI (h:=g) (i:=i.toNat) (F:=g.free.set_ (g.pages.getD i.toNat default).arg (zd3 g i)) (cs:=cs) m1 hd ?_ ?_ (fun u hu _=>m3 u hu) (m4.sublist hsub)
 ·obtain⟨k1,k2,k3⟩:=key
  refine⟨k1,fun hwh=>k2 fun u hu e=>?_,k3.trans (zb9 (zbr hm)).symm,rfl,rfl,hd.len,fun u hu=>?_,?_⟩
  ·unfold zt at hwh
   rw[hm,Bool.true_and,List.all_eq_true]at hwh
   have:=hwh u hu
   rw[Bool.or_eq_true]at this
   rcases this with k|k
   ·exact .inl (by simpa using k)
   ·refine .inr ?_
    have k:=List.contains_iff_mem.1 k
    have k:u∈g.free.flat++flats cs:=k
    show u∈(g.free.set_ _ (zd3 g i)).flat++flats cs
    rcases List.mem_append.1 k with k|k
    ·refine List.mem_append.2 (.inl ?_)
     obtain⟨d,d0,d2,hx⟩:=zga.1 k
     refine zga.2 ⟨d,d0,d2,?_⟩
     rw[zf1 hc ⟨d0,d2⟩]
     split
     ·rename_i ed
      rw[zkP,List.mem_filter]
      exact⟨by rw[←ed];exact hx,by rw[zkN,decide_eq_false (by omega)];rfl⟩
     ·exact hx
    ·exact List.mem_append.2 (.inr k)
  ·have:=hd.room u
   show ze (zat g.pages i.toNat) u=_
   rw[this]
   split
   ·rename_i e
    exact absurd (show ze (zat g.pages i.toNat) u=0 by rw[this,if_pos e]) hu
   ·rfl
  ·show(cellStarts (zat g.pages i.toNat)).Sublist _
   rw[hd.starts];exact List.filter_sublist
 ·intro u hu e
  obtain⟨l,k⟩:=hof u hu (by omega)
  exact(hst g.free (List.mem_cons_self ..) _ hc.1 hc.2 u l).2.2
 ·intro l hl d d0 d2 x hx
  rcases List.mem_cons.1 hl with rfl|hl
  ·rw[zf1 hc ⟨d0,d2⟩]at hx
   split at hx
   ·rename_i ed
    rw[zkP,List.mem_filter,zkN]at hx
    obtain⟨x1,x2⟩:=hx
    refine⟨zI.1 (m2 g.free (List.mem_cons_self ..)) d d0 d2 x (by rw[ed];exact x1),fun e=>?_⟩
    rw[decide_eq_true (by omega)]at x2
    cases x2
   ·rename_i ed
    exact⟨zI.1 (m2 g.free (List.mem_cons_self ..)) d d0 d2 x hx,fun e=>ed (harg g.free (List.mem_cons_self ..) d d0 d2 x hx (by omega))⟩
  ·refine⟨zI.1 (m2 l (List.mem_cons_of_mem _ hl)) d d0 d2 x hx,fun e=>?_⟩
   have hxs:=zn.2 (show ze g.pages x≠0 by have:=(hst l (List.mem_cons_of_mem _ hl) d d0 d2 x hx).1;omega)
   obtain⟨_,k⟩:=hof x hxs (by omega)
   have e:flats (g.free::cs)=g.free.flat++flats cs:=rfl
   rw[e]at m4
   exact(List.nodup_append.1 m4).2.2 x k x (zcQ.2 ⟨l,hl,zga.2 ⟨d,d0,d2,hx⟩⟩) rfl
theorem zv8 {g:Hp} {cs:List Lists} (hm:zw g cs=true) {a:Int} (h:headE g a=0):Freed g (zfP g a) a cs:=by
 unfold zfP
 rw[if_pos h]
 split
 ·rename_i hk
  exact zqu hm h hk
 ·rename_i hk
  obtain⟨hn0,hd⟩:=zdY h
  have hk1:=hd.kind.resolve_right hk
  have f:=zre hm h hk1
  obtain⟨b1,b2,b3,b4,b5,b6,b7,b8⟩:=zlj (g:=zc4 g a) f.may hn0 hd hk1
  exact⟨b1,fun k=>b2 (f.whole k),b3.trans f.used,b4.trans f.cards,(congrArg List.length b5).trans f.wlen,b6.trans f.plen,fun u hne hu x x0 x1=>(show zf _ _=zf (zc4 g a) (u+x) by unfold zf;rw[b5]).trans (f.word u hne hu x x0 x1),fun u hu=>b7 u hu,b8⟩
open Go.Proofs Go.Proofs.YtlankjlnnimdoaaGreatDoor
def rkV (g:Hp):List CV:=g.enc.map .d
theorem zlK (g:Hp) (hs:g.small):Spec X 239 [] [g.tv] (Ret [(0,.vars (rkV g))] (.c (.ptr 0 0 0))):=by
 refine zGO X_ok Tryz.f239 fun hb hH=>⟨rfl,?_⟩
 obtain⟨h1,h2,h3,h4,h5,h6⟩:=hs
 show ADCall ..
 refine .mk _ _ (zd g.w h1) rfl ?_
 show ADCall ..
 refine .mk _ _ (zab g.pages h2) rfl ?_
 show ADCall ..
 refine .mk _ _ (zae g.cards h3) rfl ?_
 show ∃n,_
 refine⟨4,?_⟩
 show ALoop ..
 refine .next ?_
 refine zYE (by decide) ?_
 show AOb ..
 refine⟨by decide,?_⟩
 show ACall ..
 refine za (zd g.free.l0 h4) rfl ?_
 show AOb ..
 refine⟨by decide,?_⟩
 show ALoop ..
 refine .next ?_
 refine zYE (by decide) ?_
 show AOb ..
 refine⟨by decide,?_⟩
 show ACall ..
 refine za (zd g.free.l1 h5) rfl ?_
 show AOb ..
 refine⟨by decide,?_⟩
 show ALoop ..
 refine .next ?_
 refine zYE (by decide) ?_
 show AOb ..
 refine⟨by decide,?_⟩
 show ACall ..
 refine za (zd g.free.l2 h6) rfl ?_
 show AOb ..
 refine⟨by decide,?_⟩
 show ALoop ..
 refine .next ?_
 refine zNO (by decide) ?_
 show ARet ..
 exact⟨[(_,0)],[(0,.vars (rkV g))],[.c (.ptr 0 0 0)],.cons _ _ _ _ (.c _ _ (.ptr1 _ _ _ _)) .nil,.old 0 _ _ _ _ rfl rfl (.vars _ _ (zb rfl)) .nil,rfl,rfl,rfl⟩
theorem ztK (w:List Int) (a n:Int) (hw:zba w=true) (ha:16<=a/\0<n/\a+n<=16+w.length):Spec X 236 [(16,.data .int w)] [.c (.own 16),.int a,.int n] (fun H r=>H=[(16,.data .int w)]/\r = .tup [.c (.view 16 (a-16).toNat n.toNat),.int 0]):=by
 refine zGO X_ok Tryz.f236 fun hb hH=>⟨rfl,?_⟩
 show ACall ..
 refine za (zfc w) rfl ?_
 rw[hw]
 show ABr (!true) _ _
 refine zNO (by decide) ?_
 show ABr (decide (n<0)) _ _
 refine⟨fun h=>absurd (of_decide_eq_true h) (by omega),fun _=>?_⟩
 have h1:w.length<=1024:=by have:=of_decide_eq_true hw;omega
 have e1:IntKind.i64.wrap (a-16)=a-16:=zu (by omega) (by omega)
 have e2:IntKind.i64.wrap ((w.length:Int)-(a-16))=w.length-(a-16):=zu (by omega) (by omega)
 show ABr (bif decide (n>0) then (bif (bif decide (a<16) then true else decide (IntKind.i64.wrap (a-16)>=(w.length:Int))) then true else decide (n>IntKind.i64.wrap ((w.length:Int)-IntKind.i64.wrap (a-16)))) else false) _ _
 rw[e1,e2]
 refine⟨fun h=>?_,fun _=>?_⟩
 ·exfalso
  have g1:decide (a<16)=false:=decide_eq_false (by omega)
  have g2:decide (a-16>=(w.length:Int))=false:=decide_eq_false (by omega)
  have g3:decide (n>(w.length:Int)-(a-16))=false:=decide_eq_false (by omega)
  rw[g1,g2,g3]at h
  cases hn:decide (n>0)<;>rw[hn]at h<;>exact absurd h (by decide)
 ·show ABr (decide (n=0)) _ _
  refine⟨fun h=>absurd (of_decide_eq_true h) (by omega),fun _=>?_⟩
  show AOb ((0:Int)<=IntKind.i64.wrap (a-16)/\IntKind.i64.wrap (a-16)<=(w.length:Int)) _
  rw[e1]
  refine⟨by omega,?_⟩
  show AOb ((0:Int)<=n/\n<=n/\n<=((((w.length:Int)-(a-16)).toNat:Nat):Int)) _
  refine⟨by omega,?_⟩
  show ARet ..
  exact⟨[(16,16)],[(16,.data .int w)],[.c (.view 16 (a-16).toNat n.toNat),.int 0],.cons _ _ _ _ (.view_eq2 (o:=(a-16).toNat+0) (n:=(n-0).toNat) (by simp[za2]) rfl (by omega)) (.cons _ _ _ _ .same .nil),.old 16 16 _ _ _ rfl rfl (.data_eq rfl) .nil,rfl,rfl,rfl⟩
theorem zh4 (w:List Int) (a n:Int) (hw:zba w=true) (ha:16<=a/\0<n/\a+n<=16+w.length):Spec X 234 [] [.c (.d (.sl .int w)),.int a,.int n] (Ret [] (.tup [.c (.d (.sl .int (zM w (a-16).toNat (List.replicate n.toNat (0:Int))))),.int 0])):=by
 refine zGO X_ok Tryz.f234 fun hb hH=>⟨rfl,?_⟩
 have h1:16<=w.length/\w.length<=1024:=by have:=of_decide_eq_true hw;omega
 show ACall ..
 refine .mk _ (zes w (by unfold zi;omega) (by intro e;subst e;simp at h1)) fun H r ⟨eH,er⟩ _ _=>⟨.inl rfl,?_⟩
 subst eH er
 refine .hand [(_,16)] [(16,.data .int w)] [.c (.own 16),.int a,.int n] _ (.cons _ _ _ _ (.c _ _ (.own1 _ _)) (.cons _ _ _ _ .same (.cons _ _ _ _ .same .nil))) (.old 16 _ _ _ _ rfl rfl (.data_eq rfl) .nil) rfl (ztK w a n hw ha) ?_
 rintro H r ⟨rfl,rfl⟩ _ _
 refine⟨rfl,.inl rfl,?_⟩
 refine zNO (by decide) ?_
 show ARet ..
 exact⟨[],[],[.c (.d (.sl .int (zM w (a-16).toNat (List.replicate n.toNat (0:Int))))),.int 0],.cons _ _ _ _ (.frz (k:=.int) (l:=zM w (a-16).toNat (List.replicate n.toNat (0:Int))) rfl rfl) (.cons _ _ _ _ .same .nil),.nil,rfl,rfl,rfl⟩
theorem zhA (l:List Page) (h:l.length<=zi) (hne:l≠[]):Spec X 64 [] [.c (.d (.sl .page l))] (Ret [(0,.data .page l)] (.c (.own 0))):=by
 refine zGO X_ok Tryz.f64 fun hb _=>⟨rfl,?_⟩
 intro b (hnil:b=true->l=[])
 show ABr ..
 refine⟨fun hb=>absurd (hnil hb) hne,fun hb=>?_⟩
 show AOb (0+l.length<=zi) _
 refine⟨by omega,?_⟩
 show ARet ..
 exact⟨[(_,0)],[(0,.data .page l)],[.c (.own 0)],.cons _ _ _ _ (.c _ _ (.own1 _ _)) .nil,.old 0 _ _ _ _ rfl rfl (.data_eq rfl) .nil,rfl,rfl,rfl⟩
theorem zg1 (l o:List Page) (i:Int) (hm:zao l=true) (h0:0<=i) (h1:i<(l.length:Int)):Spec X 271 [] [.c (.d (.sl .page l)),.int i,.c (.d (.sl .page o))] (Ret [] (.c (.d (.sl .page (zbA l i.toNat o))))):=by
 refine zGO X_ok Tryz.f271 fun hb hH=>⟨rfl,?_⟩
 have hb:=hb (.c (.d (.sl .page l))) (by simp)
 have hl:l.length<=zA:=hb.1
 show ACall ..
 refine .mk _ (zhA l (by have:=(zag hm).2.2;unfold zi;omega) (by intro e;subst e;simp at h1;omega)) fun H r ⟨eH,er⟩ _ _=>⟨.inl rfl,?_⟩
 subst eH er
 show AOb ((0:Int)<=i/\i<=(l.length:Int)) _
 refine⟨by omega,?_⟩
 show ARet ..
 have e:zM l i.toNat (o.take ((l.length:Int)-i).toNat)=zbA l i.toNat o:=by unfold zbA;rw[show((l.length:Int)-i).toNat=l.length-i.toNat by omega]
 exact⟨[],[],[.c (.d (.sl .page (zbA l i.toNat o)))],.cons _ _ _ _ (.c _ _ (.frz_eq (k:=.page) (l:=zM l i.toNat (o.take ((l.length:Int)-i).toNat)) rfl e)) .nil,.nil,rfl,rfl,rfl⟩
theorem zun {l:List Page} {i:Nat} (h:Drops l i):zaj (l.getD i default)=true:=by
 have hp:=(zag h.may).1 i h.lt
 rcases h.kind with hk|hk
 ·have:=hp.1 hk
  exact decide_eq_true (.inr (.inl ⟨hk,this⟩))
 ·have:=hp.2 hk
  exact decide_eq_true (.inr (.inr ⟨hk,this⟩))
theorem zso (l:List Page) (i:Int) (h0:0<=i) (hd:Drops l i.toNat):Spec X 272 [] [.c (.d (.sl .page l)),.int i] (Ret [] (.tup [.c (.d (.sl .page (zat l i.toNat))),.int 0])):=by
 refine zGO X_ok Tryz.f272 fun hb hH=>⟨rfl,?_⟩
 have hlt:=hd.lt
 show ACall ..
 refine za (zcO l) rfl ?_
 rw[hd.may]
 show ABr (!true) _ _
 refine zNO (by decide) ?_
 show ABr (decide (i<0)) _ _
 rw[decide_eq_false (by omega)]
 refine zNO (by decide) ?_
 show ABr (decide (i>=(l.length:Int))) _ _
 rw[decide_eq_false (by omega)]
 refine zNO (by decide) ?_
 show AOb ((0:Int)<=i/\i<(l.length:Int)) _
 refine⟨by omega,?_⟩
 have hk:=hd.kind
 have hf:=zun hd
 obtain⟨a1,a2,_,_⟩:=hd.all
 show ABr ((l.getD i.toNat default).kind==0) _ _
 rw[show((l.getD i.toNat default).kind==0)=false by simp only[beq_eq_false_iff_ne];omega]
 refine zNO (by decide) ?_
 show AOb ((0:Int)<=i/\i<(l.length:Int)) _
 refine⟨by omega,?_⟩
 show ABr ((l.getD i.toNat default).kind==3) _ _
 rw[show((l.getD i.toNat default).kind==3)=false by simp only[beq_eq_false_iff_ne];omega]
 refine zNO (by decide) ?_
 show AOb ((0:Int)<=i/\i<(l.length:Int)) _
 refine⟨by omega,?_⟩
 show ABr ((l.getD i.toNat default).kind==2) _ _
 unfold zat
 unfold sizeP at a1 a2 ⊢
 by_cases h2:(l.getD i.toNat default).kind=2
 ·rw[if_pos h2]at a1 a2 ⊢
  rw[show((l.getD i.toNat default).kind==2)=true by simp only[beq_iff_eq];exact h2]
  refine zYE (by decide) ?_
  show AOb ((0:Int)<=i/\i<(l.length:Int)) _
  refine⟨by omega,?_⟩
  have hfk:=(of_decide_eq_true hf:_)
  have hln:=(zag hd.may).2.2
  show AOb ((0:Int)<=(l.getD i.toNat default).arg/\(l.getD i.toNat default).arg<=(l.getD i.toNat default).arg/\(l.getD i.toNat default).arg<=((zi:Nat):Int)) _
  refine⟨by unfold zi;omega,?_⟩
  show ACall ..
  refine .frz [1440] [] [.c (.d (.sl .page l)),.int i,.c (.d (.sl .page (List.replicate (l.getD i.toNat default).arg.toNat ⟨0,0⟩)))] _ rfl .nil (.cons _ _ _ _ (.c _ _ (.same _)) (.cons _ _ _ _ (.c _ _ (.same _)) (.cons _ _ _ _ (.c _ _ (.frz _ _ rfl)) .nil))) rfl (zg1 l (List.replicate (l.getD i.toNat default).arg.toNat ⟨0,0⟩) i hd.may h0 (by omega)) ?_
  rintro H r ⟨rfl,rfl⟩ _ _
  show ARet ..
  exact zg rfl ⟨rfl,rfl⟩
 ·rw[if_neg h2]at a1 a2 ⊢
  rw[show((l.getD i.toNat default).kind==2)=false by simp only[beq_eq_false_iff_ne];exact h2]
  refine zNO (by decide) ?_
  show AOb ((0:Int)<=(1:Int)/\(1:Int)<=(1:Int)/\(1:Int)<=((zi:Nat):Int)) _
  refine⟨by unfold zi;omega,?_⟩
  show ACall ..
  refine .frz [1248] [] [.c (.d (.sl .page l)),.int i,.c (.d (.sl .page (List.replicate 1 ⟨0,0⟩)))] _ rfl .nil (.cons _ _ _ _ (.c _ _ (.same _)) (.cons _ _ _ _ (.c _ _ (.same _)) (.cons _ _ _ _ (.c _ _ (.frz _ _ rfl)) .nil))) rfl (zg1 l (List.replicate 1 ⟨0,0⟩) i hd.may h0 (by omega)) ?_
  rintro H r ⟨rfl,rfl⟩ _ _
  show ARet ..
  exact zg rfl ⟨rfl,rfl⟩
theorem zlk (g:Hp) (i:Int) (h0:0<=i) (hd:Drops g.pages i.toNat):Spec X 264 [(16,.vars (rkV g))] [.c (.ptr 16 0 0),.int i] (fun H r=>H=[(16,.vars (rkV {g with pages:=zat g.pages i.toNat}))]/\r = .tup []):=by
 refine zGO X_ok Tryz.f264 fun hb hH=>⟨rfl,?_⟩
 show ACall ..
 refine za (zso g.pages i h0 hd) rfl ?_
 show ARet ..
 exact⟨[(16,16)],[(16,.vars (rkV {g with pages:=zat g.pages i.toNat}))],[],.nil,.old 16 16 _ _ _ rfl rfl (.vars _ _ (zb rfl)) .nil,rfl,rfl,rfl⟩
theorem zrf (g:Hp) (i a:Int) (h0:0<=i) (hd:Drops g.pages i.toNat):Spec X 275 [(16,.vars (rkV g))] [.c (.ptr 16 0 0),.int i,.int a] (fun H r=>H=[(16,.vars (rkV {g with pages:=zat g.pages i.toNat}))]/\r = .tup []):=by
 refine zGO X_ok Tryz.f275 fun hb hH=>⟨rfl,?_⟩
 show ACall ..
 refine .hand [(16,16)] [(16,.vars (rkV g))] [.c (.ptr 16 0 0),.int i] _ (.cons _ _ _ _ (.c _ _ (.ptr _ _ _ _ rfl)) (.cons _ _ _ _ .same .nil)) (.old 16 16 _ _ _ rfl rfl (.vars _ _ (zb rfl)) .nil) rfl (zlk g i h0 hd) ?_
 rintro H r ⟨rfl,rfl⟩ _ _
 refine⟨rfl,.inl rfl,?_⟩
 show ARet ..
 exact⟨[(16,16)],[(16,.vars (rkV {g with pages:=zat g.pages i.toNat}))],[],.nil,.old 16 16 _ _ _ rfl rfl (.vars _ _ (zb rfl)) .nil,rfl,rfl,rfl⟩
theorem zkZ (g:Hp) (i:Int) (h0:0<=i) (hd:Drops g.pages i.toNat) (hk:(g.pages.getD i.toNat default).kind=1) (hok:g.free.ok):Spec X 241 [(16,.vars (rkV g))] [.c (.ptr 16 0 0),.int i] (fun H r=>H=[(16,.vars (rkV (zdq g i)))]/\r = .tup []):=by
 refine zGO X_ok Tryz.f241 fun hb hH=>⟨rfl,?_⟩
 have hlt:=hd.lt
 show AOb ((0:Int)<=i/\i<(g.pages.length:Int)) _
 refine⟨by omega,?_⟩
 show ABr ((g.pages.getD i.toNat default).kind != 1) _ _
 rw[show((g.pages.getD i.toNat default).kind != 1)=false by rw[hk];rfl]
 refine zNO (by decide) ?_
 have hl64:=(zag hd.may).2.2
 have e0:IntKind.i64.wrap (i+1)=i+1:=zu (by omega) (by omega)
 have e1:IntKind.i64.wrap (IntKind.i64.wrap (i+1)*16)=16*(i+1):=by rw[e0,zu (by omega) (by omega)];omega
 have e2:IntKind.i64.wrap (IntKind.i64.wrap (IntKind.i64.wrap (i+1)*16)+16)=16*(i+1)+16:=by rw[e1,zu (by omega) (by omega)]
 have sp:Spec X 263 [] [g.free.tv,.int (g.pages.getD i.toNat default).arg,.int (IntKind.i64.wrap (IntKind.i64.wrap (i+1)*16)),.int (IntKind.i64.wrap (IntKind.i64.wrap (IntKind.i64.wrap (i+1)*16)+16))] (Ret [] (.tup [(g.free.set_ (g.pages.getD i.toNat default).arg (zd3 g i)).tv,.c (.d (.sl .int (zgb g i))),.int 0])):=by
  rw[e2,e1]
  exact zum g.free _ _ _ (((zag hd.may).1 i.toNat hlt).1 hk) hok
 show ADCall ..
 refine .mk _ _ (sp) rfl ?_
 show ACall ..
 refine za (zjK (g.pages.getD i.toNat default).arg) rfl ?_
 show ABr (decide (((zgb g i).length:Int)=clsN (g.pages.getD i.toNat default).arg)) _ _
 unfold zdq
 by_cases hn:((zgb g i).length:Int)=clsN (g.pages.getD i.toNat default).arg
 ·rw[if_pos hn,decide_eq_true hn]
  refine zYE (by decide) ?_
  show ACall ..
  refine .hand [(16,16)] [(16,.vars (rkV {g with free:=g.free.set_ (g.pages.getD i.toNat default).arg (zd3 g i)}))] [.c (.ptr 16 0 0),.int i] _ (.cons _ _ _ _ (.c _ _ (.ptr _ _ _ _ rfl)) (.cons _ _ _ _ .same .nil)) (.old 16 16 _ _ _ rfl rfl (.vars _ _ (zb rfl)) .nil) rfl (zlk {g with free:=g.free.set_ (g.pages.getD i.toNat default).arg (zd3 g i)} i h0 hd) ?_
  rintro H r ⟨rfl,rfl⟩ _ _
  refine⟨rfl,.inl rfl,?_⟩
  show ARet ..
  exact⟨[(16,16)],[(16,.vars (rkV {g with free:=g.free.set_ (g.pages.getD i.toNat default).arg (zd3 g i),pages:=zat g.pages i.toNat}))],[],.nil,.old 16 16 _ _ _ rfl rfl (.vars _ _ (zb rfl)) .nil,rfl,rfl,rfl⟩
 ·rw[if_neg hn,decide_eq_false hn]
  refine zNO (by decide) ?_
  show ARet ..
  exact⟨[(16,16)],[(16,.vars (rkV g))],[],.nil,.old 16 16 _ _ _ rfl rfl (.vars _ _ (zb rfl)) .nil,rfl,rfl,rfl⟩
theorem zeQ {l:Lists} {c:Int} {x:List Int} (h:l.ok) (hx:x.length<=zi):(l.set_ c x).ok:=by
 obtain⟨h1,h2,h3⟩:=h
 unfold Lists.set_
 split
 ·exact⟨hx,h2,h3⟩
 ·split
  ·exact⟨h1,hx,h3⟩
  ·exact⟨h1,h2,hx⟩
theorem zqo {g:Hp} (hs:g.small):g.free.ok:=by
 exact hs.2.2.2
theorem zrm (g:Hp) (i a:Int) (h0:0<=i) (hd:Drops g.pages i.toNat) (hk:(g.pages.getD i.toNat default).kind=1) (hs:g.small) (h1:(g.free.at_ (g.pages.getD i.toNat default).arg).length<zi) :
  Spec X 274 [(16,.vars (rkV g))] [.c (.ptr 16 0 0),.int i,.int a] (fun H r=>H=[(16,.vars (rkV (zdq (zm1 g i a) i)))]/\r = .tup []):=by
 refine Spec.fz (zGO zlI Tryz.f274 fun hb hH=>⟨rfl,?_⟩)
 have hlt:=hd.lt
 have harg:=((zag hd.may).1 i.toNat hlt).1 hk
 show AOb ((0:Int)<=i/\i<(g.pages.length:Int)) _
 refine⟨by omega,?_⟩
 show ADCall ..
 refine .mk _ _ ((zeW g.free (g.pages.getD i.toNat default).arg [a] harg (zqo hs) h1).uz) rfl ?_
 show ACall ..
 refine .hand [(16,16)] [(16,.vars (rkV (zm1 g i a)))] [.c (.ptr 16 0 0),.int i] _ (.cons _ _ _ _ (.c _ _ (.ptr _ _ _ _ rfl)) (.cons _ _ _ _ .same .nil)) (.old 16 16 _ _ _ rfl rfl (.vars _ _ (zb rfl)) .nil) rfl (zkZ (zm1 g i a) i h0 hd hk (zeQ (zqo hs) (by rw[List.length_append];exact h1))).uz ?_
 rintro H r ⟨rfl,rfl⟩ _ _
 refine⟨rfl,.inl rfl,?_⟩
 show ARet ..
 exact⟨[(16,16)],[(16,.vars (rkV (zdq (zm1 g i a) i)))],[],.nil,.old 16 16 _ _ _ rfl rfl (.vars _ _ (zb rfl)) .nil,rfl,rfl,rfl⟩
theorem zp5 (a:Int) (h:0<=a) (h' : a<9223372036854775808):Spec X 273 [] [.int a] (Ret [] (.int (pgI a))):=by
 refine zGO X_ok Tryz.f273 fun hb hH=>⟨rfl,?_⟩
 show AOb ..
 refine⟨by decide,?_⟩
 show ARet ..
 refine zaA (x:=IntKind.i64.wrap (tdv a 16-1)) ?_ ⟨rfl,rfl⟩
 rw[zds h (by omega) h']
 exact zu (by omega) (by omega)
set_option maxRecDepth 60000 in
set_option maxHeartbeats 2000000 in
theorem zub (g:Hp) (a:Int) (hl:g.light) (hs:g.small):Spec X 265 [] [g.tv,.int a] (Ret [] (.tup [(zfP g a).tv,.int (headE g a)])):=by
 refine zGO X_ok Tryz.f265 fun hb hH=>⟨rfl,?_⟩
 show ACall ..
 refine za (zaI g a hl) rfl ?_
 unfold zfP
 by_cases h:headE g a=0
 ·show ABr (!decide (headE g a=0)) _ _
  rw[decide_eq_true h,if_pos h]
  refine zNO (by decide) ?_
  obtain⟨hm,hr,_⟩:=zG h
  obtain⟨hn0,hd⟩:=zdY h
  show ACall ..
  refine .mk _ (zlK g hs) fun H r ⟨eH,er⟩ _ _=>⟨.inl rfl,?_⟩
  subst eH er
  obtain⟨z1,z2,z3,z4⟩:=zaQ h
  obtain⟨_,_,hwl,_,_,hl64⟩:=zm (zF hm)
  have hlt:=hd.lt
  have hwl' : (zbc g a).length=g.w.length:=zfb h
  have hs' : ({g with w:=zbc g a}:Hp).small:=⟨by show(zbc g a).length<=zi;rw[hwl'];exact hs.1,hs.2⟩
  show ADCall ..
  refine .mk _ _ (zfa g.pages a) rfl ?_
  show ADCall ..
  refine .mk _ _ (zh4 g.w a (ze g.pages a) z1 ⟨z2,z3,z4⟩) rfl ?_
  show ACall ..
  refine za (zp5 a (by omega) (by unfold pgI at hlt hn0;omega)) rfl ?_
  show AOb ((0:Int)<=pgI a/\pgI a<(g.pages.length:Int)) _
  refine⟨by omega,?_⟩
  show ABr ((g.pages.getD (pgI a).toNat default).kind==2) _ _
  by_cases hk:(g.pages.getD (pgI a).toNat default).kind=2
  ·rw[if_pos hk,show((g.pages.getD (pgI a).toNat default).kind==2)=true by simp only[beq_iff_eq];exact hk]
   refine zYE (by decide) ?_
   show ACall ..
   refine .hand [(512,16)] [(16,.vars (rkV {g with w:=zbc g a}))] [.c (.ptr 16 0 0),.int (pgI a),.int a] _ (.cons _ _ _ _ (.c _ _ (.ptr _ _ _ _ rfl)) (.cons _ _ _ _ .same (.cons _ _ _ _ .same .nil))) (.old 16 512 _ _ _ rfl rfl (.vars _ _ (zb rfl)) .nil) rfl (zrf {g with w:=zbc g a} (pgI a) a hn0 hd) ?_
   rintro H r ⟨rfl,rfl⟩ _ _
   refine⟨rfl,.inl rfl,?_⟩
   show ARet ..
   exact zg rfl ⟨rfl,by rw[h];rfl⟩
  ·rw[if_neg hk,show((g.pages.getD (pgI a).toNat default).kind==2)=false by simp only[beq_eq_false_iff_ne];exact hk]
   refine zNO (by decide) ?_
   show ACall ..
   refine .hand [(512,16)] [(16,.vars (rkV {g with w:=zbc g a}))] [.c (.ptr 16 0 0),.int (pgI a),.int a] _ (.cons _ _ _ _ (.c _ _ (.ptr _ _ _ _ rfl)) (.cons _ _ _ _ .same (.cons _ _ _ _ .same .nil))) (.old 16 512 _ _ _ rfl rfl (.vars _ _ (zb rfl)) .nil) rfl (zrm {g with w:=zbc g a} (pgI a) a hn0 hd (hd.kind.resolve_right hk) hs' (Nat.lt_of_le_of_lt (zkU hm _) (by unfold zi;omega))) ?_
   rintro H r ⟨rfl,rfl⟩ _ _
   refine⟨rfl,.inl rfl,?_⟩
   show ARet ..
   exact zg rfl ⟨rfl,by rw[h];rfl⟩
 ·show ABr (!decide (headE g a=0)) _ _
  rw[decide_eq_false h,if_neg h]
  refine zYE (by decide) ?_
  show ARet ..
  exact⟨[],[],_,.cons _ _ _ _ (.agg _ _ (.cons _ _ _ _ (.nilsl .int) (.cons _ _ _ _ (.nilsl .page) (.cons _ _ _ _ (.nilsl .int) (.cons _ _ _ _ (.nilsl .int) (.cons _ _ _ _ (.nilsl .int) (.cons _ _ _ _ (.nilsl .bool) .nil))))))) (.cons _ _ _ _ .same .nil),.nil,rfl,rfl,rfl⟩
def zaq (l:List Page) (n:Nat) (i:Nat):Bool:=decide (i+n<=l.length)&&((l.drop i).take n).all fun p=>decide (p.kind=0)
def za6 (l:List Page) (n:Nat):Option Nat:=(List.range l.length).find? (zaq l n)
theorem zkk {l:List Page} {i n j:Nat} (h:j<n):((l.drop i).take n).getD j default=l.getD (i+j) default:=by
 rw[List.getD_eq_getElem?_getD,List.getD_eq_getElem?_getD,List.getElem?_take,if_pos h,List.getElem?_drop]
theorem zay {l:List Page} {n i:Nat}:zaq l n i=true↔i+n<=l.length/\∀j,j<n->(l.getD (i+j) default).kind=0:=by
 unfold zaq
 rw[Bool.and_eq_true,decide_eq_true_eq,List.all_eq_true]
 constructor
 ·rintro⟨h1,h2⟩
  refine⟨h1,fun j hj=>?_⟩
  have:=h2 (l.getD (i+j) default) (by
   rw[←zkk hj,List.getD_eq_getElem?_getD,List.getElem?_eq_getElem (by rw[List.length_take,List.length_drop];omega)]
   exact List.getElem_mem _)
  exact of_decide_eq_true this
 ·rintro⟨h1,h2⟩
  refine⟨h1,fun p hp=>?_⟩
  obtain⟨j,hj,rfl⟩:=List.mem_iff_getElem.1 hp
  have hj' : j<n:=by rw[List.length_take]at hj;omega
  have:=h2 j hj'
  rw[←zkk hj',List.getD_eq_getElem?_getD,List.getElem?_eq_getElem hj]at this
  exact decide_eq_true this
theorem zrh {l:List Page} {n:Nat} (h:∀i,i<l.length->zaq l n i=false):za6 l n=none:=by
 unfold za6
 rw[List.find?_eq_none]
 intro i hi
 rw[h i (List.mem_range.1 hi)]
 decide
theorem zu0 {l:List Page} {n i:Nat} (hi:i<l.length) (h:zaq l n i=true) (hn:∀j,j<i->zaq l n j=false):za6 l n=some i:=by
 unfold za6
 rw[List.find?_range_eq_some]
 exact⟨h,List.mem_range.2 hi,fun j hj=>by rw[hn j hj];rfl⟩
theorem zbO {l:List Page} {n i:Nat} (h:za6 l n=some i):zaq l n i=true/\i<l.length:=by
 unfold za6 at h
 exact⟨List.find?_some h,List.mem_range.1 (List.mem_of_find?_eq_some h)⟩
theorem zlB (l:List Page) (n:Nat) (hm:zao l=true) (h1:1<=n) (h4:n<=4):Spec X 256 [] [.c (.d (.sl .page l)),.int (n:Int)] (Ret [] (.tup [.int (((za6 l n).getD 0:Nat):Int),.bo (za6 l n).isSome])):=by
 refine zGO X_ok Tryz.f256 fun hb hH=>⟨rfl,?_⟩
 have hl64:=(zag hm).2.2
 show ACall ..
 refine za (zcO l) rfl ?_
 rw[hm]
 show AIf ..
 refine⟨fun _=>?_,fun h=>absurd ⟨(by rfl),trivial⟩ h⟩
 show ACall ..
 refine za (zeS (n:Int) 1 4) rfl ?_
 rw[decide_eq_true (show(1:Int)<=(n:Int)/\(n:Int)<=4 by omega)]
 refine zNO (by decide) ?_
 show ∃n,_
 refine⟨0,ALoop.inv (ι:={i:Nat // i<=l.length/\∀j,j<i->zaq l n j=false}) (fun q=>⟨[(0,.c (.d (.sl .page (l)))),(1,.int ((n:Int))),(6,.int ((q.1:Int)))],[],32⟩) (fun q=>l.length+1-q.1) ⟨0,Nat.zero_le _,fun j hj=>absurd hj (by omega)⟩ ?_ ?_⟩
 ·exact⟨[],(by repeat' first|exact .nil|refine .cons _ _ _ ?_ ?_|exact .same|exact .c _ _ (.own _ _ rfl)|exact .c _ _ (.ptr _ _ _ _ rfl)|exact .c _ _ (.frz _ _ rfl)|exact .any _),(by exact .nil),(by rfl)⟩
 rintro⟨i,hi,hn⟩
 have hi:i<=l.length:=hi
 have hn:∀j,j<i->zaq l n j=false:=hn
 have wi:IntKind.i64.wrap ((i:Int)+1)=((i+1:Nat):Int):=zP (i:=i) (by unfold zA;omega)
 have win:IntKind.i64.wrap ((i:Int)+(n:Int))=(i:Int)+(n:Int):=zu (by omega) (by omega)
 show ABr (decide (IntKind.i64.wrap ((i:Int)+(n:Int))<=(l.length:Int))) _ _
 refine⟨fun h=>?_,fun h=>?_⟩
 ·rw[win]at h
  have hin:i+n<=l.length:=by have:=of_decide_eq_true h;omega
  show AOb ((0:Int)<=(i:Int)/\(i:Int)<=(l.length:Int)) _
  refine⟨by omega,?_⟩
  have ec:cut (cut l (some (i:Int)) none) none (some (n:Int))=(l.drop i).take n:=by
   unfold cut
   simp
  have ecl:(cut l (some (i:Int)) none).length=l.length-i:=by
   unfold cut
   simp
  show AOb ((0:Int)<=(n:Int)/\(n:Int)<=((cut l (some (i:Int)) none).length:Int)) _
  refine⟨by rw[ecl];omega,?_⟩
  have el:((cut (cut l (some (i:Int)) none) none (some (n:Int))).length:Int)=(n:Int):=by rw[ec,List.length_take,List.length_drop];omega
  have erl:((l.drop i).take n).length=n:=by rw[List.length_take,List.length_drop];omega
  show ∃n,_
  refine⟨0,ALoop.inv (ι:={k:Nat // k<=n/\∀j,j<k->(l.getD (i+j) default).kind=0}) (fun q=>⟨[(0,.c (.d (.sl .page (l)))),(1,.int ((n:Int))),(6,.int ((i:Int))),(29,.c (.d (.sl .page (((l.drop i).take n))))),(30,.int ((n:Int))),(31,.int ((q.1:Int)))],[],32⟩) (fun q=>n-q.1) ⟨0,Nat.zero_le _,fun j hj=>absurd hj (by omega)⟩ ?_ ?_⟩
  ·exact⟨[],(by repeat' first|exact .nil|refine .cons _ _ _ ?_ ?_|exact .sl_eq (k:=.page) ec|exact .int_eq el|exact .same|exact .c _ _ (.own _ _ rfl)|exact .c _ _ (.ptr _ _ _ _ rfl)|exact .c _ _ (.frz _ _ rfl)|exact .any _),(by exact .nil),(by rfl)⟩
  rintro⟨k,hk,hz⟩
  have hk:k<=n:=hk
  have hz:∀j,j<k->(l.getD (i+j) default).kind=0:=hz
  show ABr (decide ((k:Int)<(n:Int))) _ _
  refine⟨fun h=>?_,fun h=>?_⟩
  ·have hkn:k<n:=by have:=of_decide_eq_true h;omega
   have wk:IntKind.i64.wrap ((k:Int)+1)=((k+1:Nat):Int):=zP (i:=k) (by unfold zA;omega)
   show AOb ((0:Int)<=(k:Int)/\(k:Int)<(((l.drop i).take n).length:Int)) _
   refine⟨by rw[erl];omega,?_⟩
   show ABr ((((l.drop i).take n).getD k default).kind != 0) _ _
   rw[zkk hkn]
   refine⟨fun h=>?_,fun h=>?_⟩
   ·have hf:zaq l n i=false:=by
     cases hf:zaq l n i with
     |false=>rfl
     |true=>rw[(zay.1 hf).2 k hkn]at h;exact absurd h (by decide)
    have hnn:∀j,j<i+1->zaq l n j=false:=fun j hj=>by
     by_cases e:j=i
     ·rw[e];exact hf
     ·exact hn j (by omega)
    show ARound ..
    exact⟨⟨i+1,by omega,hnn⟩,(by dsimp only;omega),[],(by repeat' first|exact .nil|refine .cons _ _ _ ?_ ?_|exact .int_eq wi|exact .same|exact .c _ _ (.own _ _ rfl)|exact .c _ _ (.ptr _ _ _ _ rfl)|exact .c _ _ (.frz _ _ rfl)|exact .any _),(by exact .nil),(by rfl)⟩
   ·have h0:(l.getD (i+k) default).kind=0:=by simpa using h
    have hzz:∀j,j<k+1->(l.getD (i+j) default).kind=0:=fun j hj=>by
     by_cases e:j=k
     ·rw[e];exact h0
     ·exact hz j (by omega)
    show ARound ..
    exact⟨⟨k+1,hkn,hzz⟩,(by dsimp only;omega),[],(by repeat' first|exact .nil|refine .cons _ _ _ ?_ ?_|exact .int_eq wk|exact .same|exact .c _ _ (.own _ _ rfl)|exact .c _ _ (.ptr _ _ _ _ rfl)|exact .c _ _ (.frz _ _ rfl)|exact .any _),(by exact .nil),(by rfl)⟩
  ·have hkn:k=n:=by have:=of_decide_eq_false h;omega
   have e:za6 l n=some i:=zu0 (by omega) (zay.2 ⟨hin,by rw[←hkn];exact hz⟩) hn
   rw[e]
   show ARet ..
   exact zg rfl ⟨rfl,rfl⟩
 ·rw[win]at h
  have hin:l.length<i+n:=by have:=of_decide_eq_false h;omega
  have e:za6 l n=none:=zrh fun j hj=>by
   by_cases hji:j<i
   ·exact hn j hji
   ·cases hf:zaq l n j with
    |false=>rfl
    |true=>have:=(zay.1 hf).1;omega
  rw[e]
  show ARet ..
  exact zg rfl ⟨rfl,rfl⟩
theorem zqF (l:List Page) (hz:∀j,j<l.length->(l.getD j default).kind=0):Spec X 276 [] [.c (.d (.sl .page l)),.int 0] (Ret [] (.int (l.length:Int))):=by
 refine zGO X_ok Tryz.f276 fun hb hH=>⟨rfl,?_⟩
 have hlm:l.length<=zA:=(hb (.c (.d (.sl .page l))) (by simp)).1
 show ∃n,_
 refine⟨0,ALoop.inv (ι:={k:Nat // k<=l.length}) (fun q=>⟨[(1,.int (0)),(5,.int ((q.1:Int))),(8,.c (.d (.sl .page (l)))),(9,.int ((l.length:Int))),(10,.int ((q.1:Int)))],[],32⟩) (fun q=>l.length-q.1) ⟨0,Nat.zero_le _⟩ ?_ ?_⟩
 ·exact⟨[],(by repeat' first|exact .nil|refine .cons _ _ _ ?_ ?_|exact .same|exact .c _ _ (.own _ _ rfl)|exact .c _ _ (.ptr _ _ _ _ rfl)|exact .c _ _ (.frz _ _ rfl)|exact .any _),(by exact .nil),(by rfl)⟩
 rintro⟨k,hk⟩
 have hk:k<=l.length:=hk
 show ABr (decide ((k:Int)<(l.length:Int))) _ _
 refine⟨fun h=>?_,fun h=>?_⟩
 ·have hkl:k<l.length:=by have:=of_decide_eq_true h;omega
  have wk:IntKind.i64.wrap ((k:Int)+1)=((k+1:Nat):Int):=zP (i:=k) (by omega)
  show AOb ((0:Int)<=(k:Int)/\(k:Int)<(l.length:Int)) _
  refine⟨by omega,?_⟩
  show ABr ((l.getD k default).kind==0) _ _
  rw[show((l.getD k default).kind==0)=true by simpa using hz k hkl]
  refine zYE (by decide) ?_
  show ARound ..
  exact⟨⟨k+1,hkl⟩,(by dsimp only;omega),[],(by repeat' first|exact .nil|refine .cons _ _ _ ?_ ?_|exact .int_eq wk|exact .same|exact .c _ _ (.own _ _ rfl)|exact .c _ _ (.ptr _ _ _ _ rfl)|exact .c _ _ (.frz _ _ rfl)|exact .any _),(by exact .nil),(by rfl)⟩
 ·have hkl:k=l.length:=by have:=of_decide_eq_false h;omega
  show ARet ..
  refine zaA (x:=(k:Int)) (by rw[hkl]) ⟨rfl,rfl⟩
theorem zl7 (l:List Page) (i n:Nat) (hm:zao l=true) (hf:zaq l n i=true):Spec X 269 [] [.c (.d (.sl .page l)),.int (i:Int),.int (n:Int)] (Ret [] (.int 0)):=by
 refine zGO X_ok Tryz.f269 fun hb hH=>⟨rfl,?_⟩
 have hl64:=(zag hm).2.2
 obtain⟨h1,h2⟩:=zay.1 hf
 have wl:IntKind.i64.wrap ((l.length:Int)-(n:Int))=(l.length:Int)-(n:Int):=zu (by omega) (by omega)
 show ABr (bif decide ((i:Int)<0) then true else decide ((i:Int)>IntKind.i64.wrap ((l.length:Int)-(n:Int)))) _ _
 rw[decide_eq_false (show ¬(i:Int)<0 by omega),wl,decide_eq_false (show ¬(i:Int)>(l.length:Int)-(n:Int) by omega)]
 refine zNO (by decide) ?_
 show AOb ((0:Int)<=(i:Int)/\(i:Int)<=(l.length:Int)) _
 refine⟨by omega,?_⟩
 have ec:cut (cut l (some (i:Int)) none) none (some (n:Int))=(l.drop i).take n:=by
  unfold cut
  simp
 have ecl:(cut l (some (i:Int)) none).length=l.length-i:=by
  unfold cut
  simp
 show AOb ((0:Int)<=(n:Int)/\(n:Int)<=((cut l (some (i:Int)) none).length:Int)) _
 refine⟨by rw[ecl];omega,?_⟩
 have erl:((l.drop i).take n).length=n:=by rw[List.length_take,List.length_drop];omega
 have hc:=zqF ((l.drop i).take n) (fun j hj=>by rw[zkk (by omega)];exact h2 j (by omega))
 rw[←ec]at hc
 show ACall ..
 refine za (hc) rfl ?_
 show ABr (decide (((cut (cut l (some (i:Int)) none) none (some (n:Int))).length:Int)<(n:Int))) _ _
 rw[ec,erl]
 refine zNO (by simp) ?_
 show ARet ..
 exact zg rfl ⟨rfl,rfl⟩
theorem zo3 (l:List Page) (i:Nat) (k:Int) (hm:zao l=true) (hk:0<=k/\k<=2) (hf:zaq l 1 i=true):Spec X 266 [] [.c (.d (.sl .page l)),.int (i:Int),.int k] (Ret [] (.tup [.c (.d (.sl .page (zbA l i [⟨1,k⟩]))),.int 0])):=by
 refine Spec.fz (zGO zlI Tryz.f266 fun hb hH=>⟨rfl,?_⟩)
 obtain⟨h1,h2⟩:=zay.1 hf
 show ACall ..
 refine za ((zcO l).uz) rfl ?_
 rw[hm]
 show AIf ..
 refine⟨fun _=>?_,fun h=>absurd ⟨(by rfl),trivial⟩ h⟩
 show ACall ..
 refine za ((zeS k 0 2).uz) rfl ?_
 rw[decide_eq_true hk]
 refine zNO (by decide) ?_
 show ACall ..
 refine za ((zl7 l i 1 hm hf).uz) rfl ?_
 refine zNO (by decide) ?_
 have hp:=zg1 l [⟨1,k⟩] (i:Int) hm (by omega) (by omega)
 rw[show(i:Int).toNat=i from rfl]at hp
 show ACall ..
 refine za (hp.uz) rfl ?_
 show ARet ..
 exact zg rfl ⟨rfl,rfl⟩
abbrev u64 (n:Int):TV:=.c (.d (.lit (.int .u64 n)))
theorem zsh (n:Int) (hn:n=1\/n=2\/n=3\/n=4):Spec X 279 [] [u64 1,u64 n] (Ret [] (.tup [u64 0,u64 n])):=by
 refine zGO X_ok Tryz.f279 fun hb hH=>⟨rfl,?_⟩
 rcases hn with rfl|rfl|rfl|rfl
 ·show AOb ..
  refine⟨by decide,?_⟩
  show AOb ..
  refine⟨by decide,?_⟩
  show AOb ..
  refine⟨by decide,?_⟩
  show AOb ..
  refine⟨by decide,?_⟩
  show AOb ..
  refine⟨by decide,?_⟩
  show ARet ..
  exact zg rfl ⟨rfl,rfl⟩
 ·show AOb ..
  refine⟨by decide,?_⟩
  show AOb ..
  refine⟨by decide,?_⟩
  show AOb ..
  refine⟨by decide,?_⟩
  show AOb ..
  refine⟨by decide,?_⟩
  show AOb ..
  refine⟨by decide,?_⟩
  show ARet ..
  exact zg rfl ⟨rfl,rfl⟩
 ·show AOb ..
  refine⟨by decide,?_⟩
  show AOb ..
  refine⟨by decide,?_⟩
  show AOb ..
  refine⟨by decide,?_⟩
  show AOb ..
  refine⟨by decide,?_⟩
  show AOb ..
  refine⟨by decide,?_⟩
  show ARet ..
  exact zg rfl ⟨rfl,rfl⟩
 ·show AOb ..
  refine⟨by decide,?_⟩
  show AOb ..
  refine⟨by decide,?_⟩
  show AOb ..
  refine⟨by decide,?_⟩
  show AOb ..
  refine⟨by decide,?_⟩
  show AOb ..
  refine⟨by decide,?_⟩
  show ARet ..
  exact zg rfl ⟨rfl,rfl⟩
theorem ziK (n:Int) (hn:n=1\/n=2\/n=3\/n=4):Spec X 277 [] [u64 1,u64 n] (Ret [] (.tup [u64 0,u64 n])):=by
 refine zGO X_ok Tryz.f277 fun hb hH=>⟨rfl,?_⟩
 refine zNO (by decide) ?_
 show ACall ..
 refine za (zsh n hn) rfl ?_
 show ARet ..
 exact zg rfl ⟨rfl,rfl⟩
set_option maxHeartbeats 4000000 in
theorem zoE (n:Nat) (h1:1<=n) (h4:n<=4):Spec X 270 [] [.c (.d (.sl .page [⟨3,0⟩])),.int (n:Int)] (Ret [(0,.data .page (List.replicate n ⟨3,0⟩))] (.c (.own 0))):=by
 refine zGO X_ok Tryz.f270 fun hb hH=>⟨rfl,?_⟩
 have hn:n=1\/n=2\/n=3\/n=4:=by omega
 rcases hn with rfl|rfl|rfl|rfl
 ·refine zNO (by decide) ?_
  show ACall ..
  refine za (ziK 1 (by decide)) rfl ?_
  refine zNO (by decide) ?_
  show AOb ..
  refine⟨by decide,?_⟩
  show ∃n,_
  refine⟨4,?_⟩
  show ALoop ..
  refine .next ?_
  refine zNO (by decide) ?_
  show ARet ..
  exact⟨[(736,0)],[(0,.data .page (List.replicate 1 ⟨3,0⟩))],[.c (.own 0)],.cons _ _ _ _ (.c _ _ (.own1 _ _)) .nil,.old 0 736 _ _ _ rfl rfl (.data_eq rfl) .nil,rfl,rfl,rfl⟩
 ·refine zNO (by decide) ?_
  show ACall ..
  refine za (ziK 2 (by decide)) rfl ?_
  refine zNO (by decide) ?_
  show AOb ..
  refine⟨by decide,?_⟩
  show ∃n,_
  refine⟨4,?_⟩
  show ALoop ..
  refine .next ?_
  refine zYE (by decide) ?_
  show AOb ..
  refine⟨by decide,?_⟩
  show AOb ..
  refine⟨by decide,?_⟩
  show ALoop ..
  refine .next ?_
  refine zNO (by decide) ?_
  show ARet ..
  exact⟨[(736,0)],[(0,.data .page (List.replicate 2 ⟨3,0⟩))],[.c (.own 0)],.cons _ _ _ _ (.c _ _ (.own1 _ _)) .nil,.old 0 736 _ _ _ rfl rfl (.data_eq rfl) .nil,rfl,rfl,rfl⟩
 ·refine zNO (by decide) ?_
  show ACall ..
  refine za (ziK 3 (by decide)) rfl ?_
  refine zNO (by decide) ?_
  show AOb ..
  refine⟨by decide,?_⟩
  show ∃n,_
  refine⟨4,?_⟩
  show ALoop ..
  refine .next ?_
  refine zYE (by decide) ?_
  show AOb ..
  refine⟨by decide,?_⟩
  show AOb ..
  refine⟨by decide,?_⟩
  show ALoop ..
  refine .next ?_
  refine zYE (by decide) ?_
  show AOb ..
  refine⟨by decide,?_⟩
  show AOb ..
  refine⟨by decide,?_⟩
  show ALoop ..
  refine .next ?_
  refine zNO (by decide) ?_
  show ARet ..
  exact⟨[(736,0)],[(0,.data .page (List.replicate 3 ⟨3,0⟩))],[.c (.own 0)],.cons _ _ _ _ (.c _ _ (.own1 _ _)) .nil,.old 0 736 _ _ _ rfl rfl (.data_eq rfl) .nil,rfl,rfl,rfl⟩
 ·refine zNO (by decide) ?_
  show ACall ..
  refine za (ziK 4 (by decide)) rfl ?_
  refine zNO (by decide) ?_
  show AOb ..
  refine⟨by decide,?_⟩
  show ∃n,_
  refine⟨4,?_⟩
  show ALoop ..
  refine .next ?_
  refine zYE (by decide) ?_
  show AOb ..
  refine⟨by decide,?_⟩
  show AOb ..
  refine⟨by decide,?_⟩
  show ALoop ..
  refine .next ?_
  refine zYE (by decide) ?_
  show AOb ..
  refine⟨by decide,?_⟩
  show AOb ..
  refine⟨by decide,?_⟩
  show ALoop ..
  refine .next ?_
  refine zNO (by decide) ?_
  show ARet ..
  exact⟨[(736,0)],[(0,.data .page (List.replicate 4 ⟨3,0⟩))],[.c (.own 0)],.cons _ _ _ _ (.c _ _ (.own1 _ _)) .nil,.old 0 736 _ _ _ rfl rfl (.data_eq rfl) .nil,rfl,rfl,rfl⟩
theorem FrC.frz_e {D:List Nat} {h:zh} {x:CV} {k:EK} {l m:List k.T} (h1:zbE (fun b=>D.contains b) h 8 x=some (.sl k l)) (e:l=m):FrC D h x (.d (.sl k m)):=by subst e;exact .frz _ _ h1
theorem zpT (l:List Page) (i n:Nat) (hm:zao l=true) (h1:1<=n) (h4:n<=4) (hf:zaq l n i=true):Spec X 257 [] [.c (.d (.sl .page l)),.int (i:Int),.int (n:Int)] (Ret [] (.tup [.c (.d (.sl .page (zbA l i (⟨2,n⟩::List.replicate (n-1) ⟨3,0⟩)))),.int 0])):=by
 refine Spec.fz (zGO zlI Tryz.f257 fun hb hH=>⟨rfl,?_⟩)
 obtain⟨k1,k2⟩:=zay.1 hf
 show ACall ..
 refine za ((zcO l).uz) rfl ?_
 rw[hm]
 show AIf ..
 refine⟨fun _=>?_,fun h=>absurd ⟨(by rfl),trivial⟩ h⟩
 show ACall ..
 refine za ((zeS (n:Int) 1 4).uz) rfl ?_
 rw[decide_eq_true (show(1:Int)<=(n:Int)/\(n:Int)<=4 by omega)]
 refine zNO (by decide) ?_
 show ACall ..
 refine za ((zl7 l i n hm hf).uz) rfl ?_
 refine zNO (by decide) ?_
 show ACall ..
 refine .mk _ (zoE n h1 h4).uz fun H r ⟨eH,er⟩ _ _=>⟨.inl rfl,?_⟩
 subst eH er
 show AOb ((0:Int)<=0/\(0:Int)<((List.replicate n (⟨3,0⟩:Page)).length:Int)) _
 refine⟨by rw[List.length_replicate];omega,?_⟩
 show AOb (0<(List.replicate n (⟨3,0⟩:Page)).length) _
 refine⟨by rw[List.length_replicate];omega,?_⟩
 have hp:=zg1 l (⟨2,n⟩::List.replicate (n-1) ⟨3,0⟩) (i:Int) hm (by omega) (by omega)
 rw[show(i:Int).toNat=i from rfl]at hp
 have es:(List.replicate n (⟨3,0⟩:Page)).set (Int.toNat 0) ⟨2,n⟩=⟨2,n⟩::List.replicate (n-1) ⟨3,0⟩:=by
  obtain⟨m,rfl⟩:∃m,n=m+1:=⟨n-1,by omega⟩
  rfl
 show ACall ..
 refine .frz [672] [] [.c (.d (.sl .page l)),.int (i:Int),.c (.d (.sl .page (⟨2,n⟩::List.replicate (n-1) ⟨3,0⟩)))] _ rfl .nil (.cons _ _ _ _ (.c _ _ (.same _)) (.cons _ _ _ _ (.c _ _ (.same _)) (.cons _ _ _ _ (.c _ _ (.frz_e (k:=.page) rfl es)) .nil))) rfl hp.uz ?_
 rintro H r ⟨rfl,rfl⟩ _ _
 show ARet ..
 exact zg rfl ⟨rfl,rfl⟩
theorem zvd (w:List Int) (i:Nat) (hw:zba w=true) (hi:16*(i+1)<=w.length):Spec X 258 [] [.c (.d (.sl .int w)),.int (i:Int)] (Ret [] (.tup [.int (16*((i:Int)+1)),.int 0])):=by
 refine zGO X_ok Tryz.f258 fun hb hH=>⟨rfl,?_⟩
 have h1:=(of_decide_eq_true hw:_)
 show ACall ..
 refine za (zfc w) rfl ?_
 rw[hw]
 refine zNO (by decide) ?_
 show ABr (decide ((i:Int)<0)) _ _
 rw[decide_eq_false (show ¬(i:Int)<0 by omega)]
 refine zNO (by decide) ?_
 show AOb ..
 refine⟨by decide,?_⟩
 show ABr (decide ((i:Int)>=tdv (w.length:Int) 16)) _ _
 rw[zds (by omega) (by decide) (by omega),decide_eq_false (show ¬(i:Int)>=(w.length:Int) / 16 by omega)]
 refine zNO (by decide) ?_
 have e:IntKind.i64.wrap (IntKind.i64.wrap ((i:Int)+1)*16)=16*((i:Int)+1):=by
  rw[zu (n:=(i:Int)+1) (by omega) (by omega),zu (by omega) (by omega)];omega
 show ARet ..
 exact⟨[],[],[.int (16*((i:Int)+1)),.int 0],.cons _ _ _ _ (.int_eq e) (.cons _ _ _ _ .same .nil),.nil,rfl,rfl,rfl⟩
end Go.Abs
