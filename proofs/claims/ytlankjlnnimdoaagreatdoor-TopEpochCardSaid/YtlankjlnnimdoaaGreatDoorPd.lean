/- Walks and plain laws: WFreeN, WReap, WPages, WAllocK. -/
import Derived.Test.YtlankjlnnimdoaaGreatDoorPc
set_option linter.all false
set_option linter.unusedVariables false
set_option linter.unusedSimpArgs false
namespace Go.Abs
set_option maxRecDepth 8000
def zbb (g:Hp) (a:Int):List Int:=zK g.w (a - 16).toNat (List.replicate (zf g.pages a).toNat (0:Int))
def pgI (a:Int):Int:=a / 16 - 1
def zfr (g:Hp) (i:Int):List Int:=zb7 (g.free.at_ (g.pages.getD i.toNat default).arg) (16 * (i+1)) (16 * (i+1)+16) (g.free.at_ (g.pages.getD i.toNat default).arg).length
def zdz (g:Hp) (i:Int):List Int:=zbc (g.free.at_ (g.pages.getD i.toNat default).arg) (16 * (i+1)) (16 * (i+1)+16) (g.free.at_ (g.pages.getD i.toNat default).arg).length
def zdb (g:Hp) (i:Int):Hp:=if ((zfr g i).length:Int)=ze4 (g.pages.getD i.toNat default).arg then { g with free:=g.free.set_ (g.pages.getD i.toNat default).arg (zdz g i),pages:=zar g.pages i.toNat } else g
def zlx (g:Hp) (i a:Int):Hp:={ g with free:=g.free.set_ (g.pages.getD i.toNat default).arg (g.free.at_ (g.pages.getD i.toNat default).arg ++ [a]) }
def zhz (g:Hp) (a:Int):Hp:=if headE g a=0 then (if (g.pages.getD (pgI a).toNat default).kind=2 then { g with w:=zbb g a,pages:=zar g.pages (pgI a).toNat } else zdb (zlx { g with w:=zbb g a } (pgI a) a) (pgI a)) else Hp.zero
theorem zfg : ∀ {l m : List Int}, l.Nodup → (∀ x ∈ l, x ∈ m) → l.length ≤ m.length
  | [], _, _, _ => Nat.zero_le _
  | x :: l, m, h, hs => by
    rw [List.nodup_cons] at h
    have hx := hs x (List.mem_cons_self ..)
    have := zfg (m := m.erase x) h.2 fun y hy => (List.mem_erase_of_ne (fun e : y = x => h.1 (e ▸ hy))).2 (hs y (List.mem_cons_of_mem _ hy))
    rw [List.length_erase_of_mem hx] at this
    have := List.length_pos_of_mem hx
    simp; omega
theorem zl7 {g:Hp} (h:zz g []=true):(zm [g.free]).length≤512:=by
 obtain ⟨h1,h2,h3,h4⟩:=zai h
 refine Nat.le_trans (zfg h4 (m:=cellStarts g.pages) fun x hx=>?_) (by unfold cellStarts;rw [List.length_map];exact zdi _)
 obtain ⟨l,hl,hx⟩:=zcw.1 hx
 exact zt.2 (by have:=(zc1 (h2 l hl) hx).1;omega)
theorem zk2 {g:Hp} (h:zz g []=true) (c:Int):(g.free.at_ c).length≤512:=by
 have:=zl7 h
 unfold zm Lists.flat at this
 simp at this
 unfold Lists.at_
 split
 ·omega
 ·split <;> omega
theorem zdC {g:Hp} {a:Int} (h:headE g a=0):0≤pgI a∧Drops g.pages (pgI a).toNat:=by
 obtain ⟨hm,hr,_⟩:=zV h
 obtain ⟨hmp,j,hj⟩:=zaq (zx hr)
 have e:pgI a=(j:Int):=hj.div
 rw [e]
 refine ⟨by omega,hmp,hj.lt,?_⟩
 rcases hj.kind with h | h
 ·exact .inl h.1
 ·exact .inr h.1
theorem zbO {g:Hp} {a:Int} (h:headE g a=0):zbg g.w=true∧16≤a∧0 < zf g.pages a∧a+zf g.pages a≤16+g.w.length:=by
 obtain ⟨hm,hr,_⟩:=zV h
 obtain ⟨hmw,hmp,hlen,_⟩:=zr (zM hm)
 obtain ⟨_,j,hj⟩:=zaq (zx hr)
 obtain ⟨_,hd⟩:=zdC h
 have e:(pgI a).toNat=j:=by have:=hj.div;unfold pgI;omega
 rw [e] at hd
 have h1:=hj.lo
 have h2:=hj.hi
 have h3:=hj.lt
 have hb:=hd.all.1
 refine ⟨hmw,by omega,hj.pos,?_⟩
 rcases hj.kind with ⟨k1,k2,k3,k4,k5⟩ | ⟨k1,k2,k3,k4,k5⟩
 ·have:a+zf g.pages a≤16 * ((j:Int)+2):=k4
  omega
 ·have k4:a=16 * ((j:Int)+1):=k4
  have k5:zf g.pages a=(g.pages.getD j default).arg * 16:=k5
  unfold sizeP at hb
  rw [if_pos k1] at hb
  omega
theorem zev {g:Hp} {a:Int} (h:headE g a=0):(zbb g a).length=g.w.length:=by
 obtain ⟨_,z2,z3,z4⟩:=zbO h
 unfold zbb zK
 simp
 omega
end Go.Abs
namespace Go.Abs
set_option maxRecDepth 8000
theorem zwj {l m:List Int} (h:l.Nodup) (hs:∀ x∈l,x∈m) (hl:m.length≤l.length):∀ y∈m,y∈l:=by
 intro y hy
 apply Classical.byContradiction
 intro hn
 have:=zfg (m:=m.erase y) h fun x hx=>(List.mem_erase_of_ne (fun e:x=y=>hn (e ▸ hx))).2 (hs x hx)
 rw [List.length_erase_of_mem hy] at this
 have:=List.length_pos_of_mem hy
 omega
theorem zbQ {g:Hp} {cs:List Lists} (h:zz g cs=true):zz g []=true:=by
 obtain ⟨h1,h2,h3,h4⟩:=zai h
 refine zdf h1 (fun l hl=>h2 l ?_) h3 ?_
 ·rw [List.mem_singleton.1 hl];exact List.mem_cons_self ..
 ·have e:zm (g.free :: cs)=zm [g.free] ++ zm cs:=by unfold zm;simp
  rw [e] at h4
  exact (List.nodup_append.1 h4).1
theorem zF {h:Hp} {l:Lists}:zab h l=true↔∀ d:Int,0≤d→d≤2→∀ x∈l.at_ d,zao h d x=true:=by
 unfold zab
 simp only [Bool.and_eq_true,List.all_eq_true]
 constructor
 ·rintro ⟨h0,h1,h2⟩ d hd0 hd2 x hx
  have:d=0∨d=1∨d=2:=by omega
  rcases this with rfl | rfl | rfl
  ·exact h0 x hx
  ·exact h1 x hx
  ·exact h2 x hx
 ·intro h
  exact ⟨h 0 (by omega) (by omega),h 1 (by omega) (by omega),h 2 (by omega) (by omega)⟩
theorem zfi {l:Lists} {x:Int}:x∈l.flat↔∃ d:Int,0≤d∧d≤2∧x∈l.at_ d:=by
 unfold Lists.flat
 simp only [List.mem_append]
 constructor
 ·rintro ((h | h) | h)
  ·exact ⟨0,by omega,by omega,h⟩
  ·exact ⟨1,by omega,by omega,h⟩
  ·exact ⟨2,by omega,by omega,h⟩
 ·rintro ⟨d,h1,h2,h⟩
  have:d=0∨d=1∨d=2:=by omega
  rcases this with rfl | rfl | rfl
  ·exact .inl (.inl h)
  ·exact .inl (.inr h)
  ·exact .inr h
theorem zfA {l:Lists} {c d:Int} {x:List Int} (hc:0≤c∧c≤2) (hd:0≤d∧d≤2):(l.set_ c x).at_ d=if d=c then x else l.at_ d:=by
 have h1:c=0∨c=1∨c=2:=by omega
 have h2:d=0∨d=1∨d=2:=by omega
 rcases h1 with rfl | rfl | rfl <;> rcases h2 with rfl | rfl | rfl <;> rfl
theorem zvj {l:Lists} {c:Int} {x:List Int} (hc:0≤c∧c≤2) (h:x.Sublist (l.at_ c)):(l.set_ c x).flat.Sublist l.flat:=by
 have h1:c=0∨c=1∨c=2:=by omega
 rcases h1 with rfl | rfl | rfl
 ·exact (List.Sublist.append (List.Sublist.append h (List.Sublist.refl _)) (List.Sublist.refl _))
 ·exact (List.Sublist.append (List.Sublist.append (List.Sublist.refl _) h) (List.Sublist.refl _))
 ·exact (List.Sublist.append (List.Sublist.append (List.Sublist.refl _) (List.Sublist.refl _)) h)
theorem zuQ {l:Lists} {c a:Int} (hc:0≤c∧c≤2):(l.set_ c (l.at_ c ++ [a])).flat.Perm (a :: l.flat):=by
 have h1:c=0∨c=1∨c=2:=by omega
 rcases h1 with rfl | rfl | rfl
 ·show ((l.l0 ++ [a]) ++ l.l1 ++ l.l2).Perm (a :: (l.l0 ++ l.l1 ++ l.l2))
  simp only [List.append_assoc,List.singleton_append]
  exact List.perm_middle
 ·show ((l.l0 ++ (l.l1 ++ [a])) ++ l.l2).Perm (a :: (l.l0 ++ l.l1 ++ l.l2))
  simp only [List.append_assoc,List.singleton_append]
  rw [← List.append_assoc,← List.append_assoc]
  exact List.perm_middle
 ·show (l.l0 ++ l.l1 ++ (l.l2 ++ [a])).Perm (a :: (l.l0 ++ l.l1 ++ l.l2))
  rw [← List.append_assoc]
  exact List.perm_append_singleton _ _
theorem zan {l:List Page} {x:Int × Int} (h:x∈cellsAll l):16≤x.1∧0 < x.2∧x.1+x.2≤16 * ((l.length:Int)+1):=by
 obtain ⟨hmp,j,hj⟩:=zaq h
 have h1:=hj.lo
 have h2:=hj.hi
 have h3:=hj.lt
 refine ⟨by omega,hj.pos,?_⟩
 rcases hj.kind with ⟨k1,k2,k3,k4,k5⟩ | ⟨k1,k2,k3,k4,k5⟩
 ·omega
 ·have hb:=(Drops.all ⟨hmp,h3,.inr k1⟩).1
  unfold sizeP at hb
  rw [if_pos k1] at hb
  omega
theorem zkU {l:List Page} {x y:Int × Int} (hx:x∈cellsAll l) (hy:y∈cellsAll l) {p:Int} (h1:x.1≤p∧p < x.1+x.2) (h2:y.1≤p∧p < y.1+y.2):x=y:=by
 obtain ⟨hmp,_⟩:=zaq hx
 obtain ⟨e1,_,e3⟩:=zan hx
 have ht:=zwc l 0 0 (by unfold zas at hmp;rw [Bool.and_eq_true] at hmp;exact hmp.1) (Int.le_refl _) (fun p hp=>by
  obtain ⟨i,hi,e⟩:=List.mem_iff_getElem.1 hp
  have:=(zah hmp).1 i hi
  rw [List.getD_eq_getElem?_getD,List.getElem?_eq_getElem hi] at this
  rw [← e];exact this) p (by omega) (by omega)
 have e0:cellsAll l=zci 0 l:=by
  unfold cellsAll
  rw [if_pos hmp,zea l _ 0 rfl]
  rfl
 rw [← e0] at ht
 have hc:((cellsAll l).filter (zdR p)).length≤1:=by unfold cnt at ht;omega
 have m1:x∈(cellsAll l).filter (zdR p):=List.mem_filter.2 ⟨hx,decide_eq_true h1⟩
 have m2:y∈(cellsAll l).filter (zdR p):=List.mem_filter.2 ⟨hy,decide_eq_true h2⟩
 generalize (cellsAll l).filter (zdR p)=L at hc m1 m2
 match L,hc,m1,m2 with
 | [],_,m1,_=>cases m1
 | [z],_,m1,m2=>rw [List.mem_singleton.1 m1,List.mem_singleton.1 m2]
 | _ :: _ :: _,hc,_,_=>simp at hc
theorem ztB {l:List Page} {a u f:Int} (ha:zf l a≠0) (hu:zf l u≠0) (hne:u≠a) (hf:0≤f∧f < zf l u):¬ (a≤u+f∧u+f < a+zf l a):=by
 intro h
 have:=zkU (zx ha) (zx hu) (p:=u+f) h ⟨by show u≤_;omega,by show _ < u+_;omega⟩
 exact hne (congrArg Prod.fst this).symm
theorem zlL {g:Hp} {a u:Int} (h:headE g a=0) (hu:16≤u) (p:List Page) (f:Lists) (cd:List Bool):zh ⟨zbb g a,p,f,cd⟩ u=if a≤u∧u < a+zf g.pages a then 0 else zh g u:=by
 obtain ⟨_,z2,z3,z4⟩:=zbO h
 show at0 (zbb g a) (u - 16).toNat=_
 unfold zbb zK zh
 rw [zfN,zfN]
 simp only [List.length_append,List.length_take,List.length_replicate]
 by_cases c1:u < a
 ·rw [if_pos (by omega),if_pos (by omega),if_neg (by omega),zha _ _ _ (by omega)]
 ·by_cases c2:u < a+zf g.pages a
  ·rw [if_pos (by omega),if_neg (by omega),if_pos ⟨by omega,c2⟩]
   unfold at0
   rw [List.getD_eq_getElem?_getD,List.getElem?_replicate]
   split <;> rfl
  ·rw [if_neg (by omega),if_neg (by omega),zhr]
   congr 1
   omega
theorem zmM {g:Hp} {a u f:Int} (h:headE g a=0) (hu:zf g.pages u≠0) (hne:u≠a) (hf:0≤f∧f < zf g.pages u) (p:List Page) (fr:Lists) (cd:List Bool):zh ⟨zbb g a,p,fr,cd⟩ (u+f)=zh g (u+f):=by
 rw [zlL h (by have:=(zan (zx hu)).1;have:16≤u:=this;omega),if_neg (ztB (zV h).2.1 hu hne hf)]
theorem zdS {g:Hp} {a u:Int} (h:headE g a=0) (hu:zf g.pages u≠0) (hne:u≠a) (p:List Page) (fr:Lists) (cd:List Bool):zh ⟨zbb g a,p,fr,cd⟩ u=zh g u:=by
 have:=zmM h hu hne (f:=0) ⟨Int.le_refl _,by have:=(zan (zx hu)).2.1;exact this⟩ p fr cd
 rwa [Int.add_zero] at this
theorem zfU {g:Hp} {a:Int} (h:headE g a=0) (p:List Page) (fr:Lists) (cd:List Bool):zh ⟨zbb g a,p,fr,cd⟩ a=0:=by
 obtain ⟨_,z2,z3,z4⟩:=zbO h
 rw [zlL h z2,if_pos ⟨Int.le_refl _,by omega⟩]
end Go.Abs
namespace Go.Abs
set_option maxRecDepth 8000
theorem zeC {l:List Page} {u:Int} (h:u∈cellStarts l):∃ j:Nat,CellOf l (u,zf l u) j∧u / 16 - 1=(j:Int):=by
 obtain ⟨_,j,hj⟩:=zaq (zx (zt.1 h))
 exact ⟨j,hj,hj.div⟩
theorem zl6 {h:Hp} {i:Nat} (hd:Drops h.pages i) {u:Int} (hu:u∈cellStarts h.pages) (hi:u / 16 - 1≠(i:Int)) (w:List Int) (F:Lists) (cd:List Bool):zR ⟨w,zar h.pages i,F,cd⟩ u=zR h u:=by
 obtain ⟨j,hj,e⟩:=zeC hu
 unfold zR
 show (zar h.pages i).getD (u / 16 - 1).toNat default=_
 rw [e,Int.toNat_natCast]
 refine hd.keep (by omega) ?_
 rcases hj.kind with k | k <;> omega
theorem zjM {h:Hp} {i:Nat} {F:Lists} {cs:List Lists} (hs:zE h=true) (hd:Drops h.pages i) (hz:∀ u∈cellStarts h.pages,u / 16 - 1=(i:Int)→zh h u=0)
  (hl:∀ l∈F :: cs,∀ d:Int,0≤d→d≤2→∀ x∈l.at_ d,zao h d x=true∧x / 16 - 1≠(i:Int)) (hc:∀ u∈cellStarts h.pages,u / 16 - 1≠(i:Int)→zay h u=true) (hn:(zm (F :: cs)).Nodup) :
  zz ⟨h.w,zar h.pages i,F,h.cards⟩ cs=true∧((∀ u∈cellStarts h.pages,u / 16 - 1≠(i:Int)→zh h u≠0∨u∈zm (F :: cs))→zo ⟨h.w,zar h.pages i,F,h.cards⟩ cs=true) ∧
  zam ⟨h.w,zar h.pages i,F,h.cards⟩=(cellStarts h.pages).filter fun u=>zh h u != 0:=by
 have hw:∀ u,zh ⟨h.w,zar h.pages i,F,h.cards⟩ u=zh h u:=fun _=>rfl
 have hst:∀ u,u∈cellStarts (zar h.pages i)↔u∈cellStarts h.pages∧u / 16 - 1≠(i:Int):=fun u=>by rw [hd.starts,List.mem_filter,decide_eq_true_eq]
 have hm:zz ⟨h.w,zar h.pages i,F,h.cards⟩ cs=true:=by
  refine zdf ?_ ?_ ?_ hn
  ·obtain ⟨a1,a2,a3,a4,_⟩:=zr hs
   unfold zE
   rw [a1,hd.may']
   show (true && (true && decide (h.w.length=16 * (zar h.pages i).length∧h.cards.length=2 * (zar h.pages i).length)))=true
   rw [hd.len,decide_eq_true ⟨a3,a4⟩]
   rfl
  ·intro l hll
   refine zF.2 fun d h0 h2 x hx=>?_
   obtain ⟨k1,k2⟩:=hl l hll d h0 h2 x hx
   obtain ⟨r1,r2,r3⟩:=(of_decide_eq_true k1:0 < zf h.pages x∧zR h x=⟨1,d⟩∧zh h x=0)
   have hx:=zt.2 (show zf h.pages x≠0 by omega)
   refine decide_eq_true ⟨?_,?_,r3⟩
   ·show 0 < zf (zar h.pages i) x
    rw [hd.room,if_neg k2];exact r1
   ·rw [zl6 hd hx k2];exact r2
  ·intro u hu
   obtain ⟨u1,u2⟩:=(hst u).1 hu
   have:=hc u u1 u2
   unfold zay at this ⊢
   rw [zl6 hd u1 u2,hw]
   exact this
 refine ⟨hm,fun hwh=>?_,?_⟩
 ·unfold zo
  rw [hm,Bool.true_and,List.all_eq_true]
  intro u hu
  obtain ⟨u1,u2⟩:=(hst u).1 hu
  rw [hw,Bool.or_eq_true]
  rcases hwh u u1 u2 with k | k
  ·exact .inl (by simpa using k)
  ·exact .inr (List.contains_iff_mem.2 k)
 ·rw [zbT (zbQ hm)]
  show (cellStarts (zar h.pages i)).filter (fun u=>zh h u != 0)=_
  rw [hd.starts,List.filter_filter]
  apply List.filter_congr
  intro u hu
  by_cases e:u / 16 - 1=(i:Int)
  ·rw [hz u hu e];rfl
  ·rw [decide_eq_true e,Bool.and_true]
structure Freed (g k:Hp) (a:Int) (cs:List Lists):Prop where
 may:zz k cs=true
 whole:zo g cs=true→zo k cs=true
 used:zam k=(zam g).filter fun u=>decide (u≠a)
 cards:k.cards=g.cards
 wlen:k.w.length=g.w.length
 plen:k.pages.length=g.pages.length
 word:∀ u,u≠a→zf g.pages u≠0→∀ f,0≤f→f < zf g.pages u→zh k (u+f)=zh g (u+f)
 room:∀ u,zf k.pages u≠0→zf k.pages u=zf g.pages u
 starts:(cellStarts k.pages).Sublist (cellStarts g.pages)
theorem zfL {g:Hp} {cs:List Lists} (hm:zz g cs=true) {a:Int} (h:headE g a=0):zh g a≠0:=by
 have:=zbd.2 h
 rw [zbT (zbQ hm),List.mem_filter] at this
 simpa using this.2
theorem zlh {g:Hp} {cs:List Lists} (hm:zz g cs=true) {a:Int} (h:headE g a=0) (fr:Lists) (cd:List Bool) :
  (cellStarts g.pages).filter (fun u=>zh ⟨zbb g a,g.pages,fr,cd⟩ u != 0)=(zam g).filter fun u=>decide (u≠a):=by
 rw [zbT (zbQ hm),List.filter_filter]
 apply List.filter_congr
 intro u hu
 by_cases e:u=a
 ·subst e
  rw [zfU h,decide_eq_false (fun k=>k rfl)];rfl
 ·rw [zdS h (zt.1 hu) e,decide_eq_true e,Bool.true_and]
theorem zpg {g:Hp} {cs:List Lists} (hm:zz g cs=true) {a:Int} (h:headE g a=0) (hk:(g.pages.getD (pgI a).toNat default).kind=2) :
  Freed g ⟨zbb g a,zar g.pages (pgI a).toNat,g.free,g.cards⟩ a cs:=by
 obtain ⟨m1,m2,m3,m4⟩:=zai hm
 obtain ⟨hn0,hd⟩:=zdC h
 have ei:((pgI a).toNat:Int)=pgI a:=by omega
 have hr:=(zV h).2.1
 have hpg:∀ u∈cellStarts g.pages,u / 16 - 1=((pgI a).toNat:Int)→u=a:=by
  intro u hu e
  obtain ⟨j,hj,ej⟩:=zeC hu
  obtain ⟨j',hj',ej'⟩:=zeC (zt.2 hr)
  have e2:j=(pgI a).toNat:=by omega
  have e3:j' = (pgI a).toNat:=by unfold pgI at *;omega
  subst e2
  rw [e3] at hj'
  have k1:u=16 * (((pgI a).toNat:Int)+1):=by rcases hj.kind with k | k;omega;exact k.2.2.2.1
  have k2:a=16 * (((pgI a).toNat:Int)+1):=by rcases hj'.kind with k | k;omega;exact k.2.2.2.1
  omega
 have hst:∀ l∈g.free :: cs,∀ d:Int,0≤d→d≤2→∀ x∈l.at_ d,0 < zf g.pages x∧zR g x=⟨1,d⟩∧zh g x=0:=fun l hl d h0 h2 x hx=>of_decide_eq_true (zF.1 (m2 l hl) d h0 h2 x hx)
 have key:=zjM (h:=⟨zbb g a,g.pages,g.free,g.cards⟩) (i:=(pgI a).toNat) (F:=g.free) (cs:=cs) ?_ hd ?_ ?_ ?_ m4
 ·obtain ⟨k1,k2,k3⟩:=key
  refine ⟨k1,fun hwh=>k2 fun u hu e=>?_,k3.trans (zlh hm h _ _),rfl,zev h,hd.len,fun u hne hu f f0 f1=>zmM h hu hne ⟨f0,f1⟩ _ _ _,fun u hu=>?_,?_⟩
  ·have hne:u≠a:=fun k=>by subst k;exact e (by unfold pgI;unfold pgI at ei;omega)
   rw [zdS h (zt.1 hu) hne]
   unfold zo at hwh
   rw [hm,Bool.true_and,List.all_eq_true] at hwh
   have:=hwh u hu
   rw [Bool.or_eq_true] at this
   rcases this with k | k
   ·exact .inl (by simpa using k)
   ·exact .inr (List.contains_iff_mem.1 k)
  ·have:=hd.room u
   show zf (zar g.pages (pgI a).toNat) u=_
   rw [this]
   split
   ·rename_i e
    exact absurd (show zf (zar g.pages (pgI a).toNat) u=0 by rw [this,if_pos e]) hu
   ·rfl
  ·show (cellStarts (zar g.pages (pgI a).toNat)).Sublist _
   rw [hd.starts];exact List.filter_sublist
 ·obtain ⟨a1,a2,a3,a4,_⟩:=zr m1
  have e:(zbb g a).length=g.w.length:=zev h
  unfold zE
  show (zbg (zbb g a) && (zas g.pages && decide ((zbb g a).length=16 * g.pages.length∧g.cards.length=2 * g.pages.length)))=true
  unfold zbg at a1 ⊢
  rw [e,a1,a2,decide_eq_true ⟨a3,a4⟩];rfl
 ·intro u hu e
  rw [hpg u hu e];exact zfU h _ _ _
 ·intro l hl d h0 h2 x hx
  obtain ⟨r1,r2,r3⟩:=hst l hl d h0 h2 x hx
  have hne:x≠a:=fun k=>zfL hm h (by rw [← k];exact r3)
  refine ⟨decide_eq_true ⟨r1,r2,?_⟩,fun e=>hne (hpg x (zt.2 (by omega)) e)⟩
  rw [zdS h (by omega) hne];exact r3
 ·intro u hu e
  have hne:u≠a:=fun k=>by subst k;exact e (by unfold pgI;unfold pgI at ei;omega)
  have:=m3 u hu
  unfold zay at this ⊢
  rw [zdS h (zt.1 hu) hne]
  exact this
end Go.Abs
namespace Go.Abs
set_option maxRecDepth 8000
abbrev zcS (g:Hp) (a:Int):Hp:=zlx { g with w:=zbb g a } (pgI a) a
theorem zp6 {g:Hp} {cs:List Lists} (hm:zz g cs=true) {a:Int} (h:headE g a=0) (hk:(g.pages.getD (pgI a).toNat default).kind=1):Freed g (zcS g a) a cs:=by
 obtain ⟨m1,m2,m3,m4⟩:=zai hm
 obtain ⟨hn0,hd⟩:=zdC h
 have hr:=(zV h).2.1
 have hc:=((zah hd.may).1 _ hd.lt).1 hk
 have hp:zR g a=⟨1,(g.pages.getD (pgI a).toNat default).arg⟩:=by
  show g.pages.getD (pgI a).toNat default=_
  generalize g.pages.getD (pgI a).toNat default=p at hk
  cases p;cases hk;rfl
 have hst:∀ l∈g.free :: cs,∀ d:Int,0≤d→d≤2→∀ x∈l.at_ d,0 < zf g.pages x∧zR g x=⟨1,d⟩∧zh g x=0:=fun l hl d h0 h2 x hx=>of_decide_eq_true (zF.1 (m2 l hl) d h0 h2 x hx)
 have hkeep:∀ l∈g.free :: cs,∀ d:Int,0≤d→d≤2→∀ x∈l.at_ d,zao (zcS g a) d x=true:=by
  intro l hl d h0 h2 x hx
  obtain ⟨r1,r2,r3⟩:=hst l hl d h0 h2 x hx
  have hne:x≠a:=fun k=>zfL hm h (by rw [← k];exact r3)
  refine decide_eq_true ⟨r1,r2,?_⟩
  exact (zdS h (by omega) hne _ _ _).trans r3
 have hperm:(zm ((zcS g a).free :: cs)).Perm (a :: zm (g.free :: cs)):=by
  show ((g.free.set_ _ (g.free.at_ _ ++ [a])).flat ++ zm cs).Perm (a :: (g.free.flat ++ zm cs))
  exact (zuQ hc).append_right _
 have hna:a ∉ zm (g.free :: cs):=by
  intro k
  obtain ⟨l,hl,hx⟩:=zcw.1 k
  exact zfL hm h (zc1 (m2 l hl) hx).2
 have hmay:zz (zcS g a) cs=true:=by
  refine zdf ?_ ?_ ?_ (hperm.nodup_iff.2 (List.nodup_cons.2 ⟨hna,m4⟩))
  ·obtain ⟨a1,a2,a3,a4,_⟩:=zr m1
   have e:(zbb g a).length=g.w.length:=zev h
   unfold zE
   show (zbg (zbb g a) && (zas g.pages && decide ((zbb g a).length=16 * g.pages.length∧g.cards.length=2 * g.pages.length)))=true
   unfold zbg at a1 ⊢
   rw [e,a1,a2,decide_eq_true ⟨a3,a4⟩];rfl
  ·intro l hl
   rcases List.mem_cons.1 hl with rfl | hl
   ·refine zF.2 fun d h0 h2 x hx=>?_
    have hx:x∈(g.free.set_ (g.pages.getD (pgI a).toNat default).arg (g.free.at_ (g.pages.getD (pgI a).toNat default).arg ++ [a])).at_ d:=hx
    rw [zfA hc ⟨h0,h2⟩] at hx
    split at hx
    ·rename_i e
     rcases List.mem_append.1 hx with hx | hx
     ·exact hkeep g.free (List.mem_cons_self ..) d h0 h2 x (by rw [e];exact hx)
     ·rw [List.mem_singleton.1 hx]
      exact decide_eq_true ⟨by have:=zgj g.pages a;show 0 < zf g.pages a;omega,by rw [e];exact hp,zfU h _ _ _⟩
    ·exact hkeep g.free (List.mem_cons_self ..) d h0 h2 x hx
   ·exact zF.2 fun d h0 h2 x hx=>hkeep l (List.mem_cons_of_mem _ hl) d h0 h2 x hx
  ·intro u hu
   have hu:u∈cellStarts g.pages:=hu
   by_cases e:u=a
   ·subst e
    unfold zay
    rw [show zh (zcS g u) u=0 from zfU h _ _ _,show zR (zcS g u) u=zR g u from rfl,hp,show zhY 0=true by decide,show (unp 0).used=false by decide]
    rfl
   ·have:=m3 u hu
    unfold zay at this ⊢
    rw [show zh (zcS g a) u=zh g u from zdS h (zt.1 hu) e _ _ _]
    exact this
 refine ⟨hmay,fun hwh=>?_,?_,rfl,zev h,rfl,fun u hne hu f f0 f1=>zmM h hu hne ⟨f0,f1⟩ _ _ _,fun u hu=>rfl,List.Sublist.refl _⟩
 ·unfold zo
  rw [hmay,Bool.true_and,List.all_eq_true]
  intro u hu
  have hu:u∈cellStarts g.pages:=hu
  rw [Bool.or_eq_true]
  by_cases e:u=a
  ·exact .inr (List.contains_iff_mem.2 (hperm.mem_iff.2 (by rw [e];exact List.mem_cons_self ..)))
  ·rw [show zh (zcS g a) u=zh g u from zdS h (zt.1 hu) e _ _ _]
   unfold zo at hwh
   rw [hm,Bool.true_and,List.all_eq_true] at hwh
   have:=hwh u hu
   rw [Bool.or_eq_true] at this
   rcases this with k | k
   ·exact .inl k
   ·exact .inr (List.contains_iff_mem.2 (hperm.mem_iff.2 (List.mem_cons_of_mem _ (List.contains_iff_mem.1 k))))
 ·rw [zbT (zbQ hmay)]
  exact zlh hm h _ _
theorem zmS (g:Hp) (i:Int):zfr g i=(g.free.at_ (g.pages.getD i.toNat default).arg).filter (inP (16 * (i+1)) (16 * (i+1)+16)):=by
 unfold zfr zb7;rw [List.take_length]
theorem zkS (g:Hp) (i:Int):zdz g i=(g.free.at_ (g.pages.getD i.toNat default).arg).filter fun x=>!inP (16 * (i+1)) (16 * (i+1)+16) x:=by
 unfold zdz zbc;rw [List.take_length]
theorem zjw {i x:Int}:inP (16 * (i+1)) (16 * (i+1)+16) x=decide (x / 16 - 1=i):=by
 unfold inP
 rw [← Bool.decide_and]
 exact decide_eq_decide.2 (by omega)
def znk (p:Page) (i:Int):List Int:=(List.range (ze4 p.arg).toNat).map fun k:Nat=>16 * (i+1)+(k:Int) * zaM p.arg
theorem zk3 {l:List Page} {u:Int} {i:Nat} (hu:u∈cellStarts l) (e:u / 16 - 1=(i:Int)) (hk:(l.getD i default).kind=1):u∈znk (l.getD i default) i:=by
 obtain ⟨j,hj,ej⟩:=zeC hu
 have:j=i:=by omega
 subst this
 obtain ⟨hmp,_⟩:=zaq (zx (zt.1 hu))
 rcases zfI ((zah hmp).1 j hj.lt) hj.mem with ⟨_,_,k,k1,k2⟩ | ⟨k,_⟩
 ·have k2:u=16 * ((j:Int)+1)+(k:Int) * zaM (l.getD j default).arg:=k2
  refine List.mem_map.2 ⟨k,List.mem_range.2 (by omega),k2.symm⟩
 ·omega
theorem zuE {g:Hp} {cs:List Lists} (hm:zz g cs=true) {i:Int} (h0:0≤i) (hd:Drops g.pages i.toNat) (hk:(g.pages.getD i.toNat default).kind=1) :
  ((zfr g i).length:Int)≤ze4 (g.pages.getD i.toNat default).arg∧(((zfr g i).length:Int)=ze4 (g.pages.getD i.toNat default).arg→∀ u∈cellStarts g.pages,u / 16 - 1=i→u∈zfr g i):=by
 obtain ⟨m1,m2,m3,m4⟩:=zai hm
 have hc:=((zah hd.may).1 _ hd.lt).1 hk
 have ei:((i.toNat:Nat):Int)=i:=by omega
 have hN:=zkz hc
 have hlen:((znk (g.pages.getD i.toNat default) i).length:Int)=ze4 (g.pages.getD i.toNat default).arg:=by
  unfold znk;rw [List.length_map,List.length_range];rcases hN with k | k | k <;> omega
 have hnd:(zfr g i).Nodup:=by
  rw [zmS]
  apply List.Nodup.sublist List.filter_sublist
  have e:zm (g.free :: cs)=g.free.flat ++ zm cs:=rfl
  rw [e] at m4
  have:=(List.nodup_append.1 m4).1
  have hc' : (g.pages.getD i.toNat default).arg=0∨(g.pages.getD i.toNat default).arg=1∨(g.pages.getD i.toNat default).arg=2:=by omega
  unfold Lists.flat at this
  rcases hc' with e | e | e <;> rw [e]
  ·exact (List.nodup_append.1 (List.nodup_append.1 this).1).1
  ·exact (List.nodup_append.1 (List.nodup_append.1 this).1).2.1
  ·exact (List.nodup_append.1 this).2.1
 have hsub:∀ x∈zfr g i,x∈znk (g.pages.getD i.toNat default) i:=by
  intro x hx
  rw [zmS,List.mem_filter,zjw,decide_eq_true_eq] at hx
  obtain ⟨r1,_⟩:=(of_decide_eq_true (zF.1 (m2 g.free (List.mem_cons_self ..)) _ hc.1 hc.2 x hx.1):0 < zf g.pages x∧_)
  have:=zk3 (i:=i.toNat) (zt.2 (show zf g.pages x≠0 by omega)) (by omega) hk
  rw [ei] at this;exact this
 have hle:=zfg hnd hsub
 refine ⟨by omega,fun he u hu e=>?_⟩
 refine zwj hnd hsub (by omega) u ?_
 have:=zk3 (i:=i.toNat) hu (by omega) hk
 rw [ei] at this;exact this
theorem zj1 {g:Hp} {cs:List Lists} (hm:zz g cs=true) {i:Int} (h0:0≤i) (hd:Drops g.pages i.toNat) (hk:(g.pages.getD i.toNat default).kind=1) :
  zz (zdb g i) cs=true∧(zo g cs=true→zo (zdb g i) cs=true)∧zam (zdb g i)=zam g∧(zdb g i).cards=g.cards∧(zdb g i).w=g.w∧(zdb g i).pages.length=g.pages.length∧(∀ u,zf (zdb g i).pages u≠0→zf (zdb g i).pages u=zf g.pages u)∧(cellStarts (zdb g i).pages).Sublist (cellStarts g.pages):=by
 unfold zdb
 split
 case isFalse=>exact ⟨hm,id,rfl,rfl,rfl,rfl,fun _ _=>rfl,List.Sublist.refl _⟩
 rename_i hn
 obtain ⟨m1,m2,m3,m4⟩:=zai hm
 have hc:=((zah hd.may).1 _ hd.lt).1 hk
 have ei:((i.toNat:Nat):Int)=i:=by omega
 have hall:=(zuE hm h0 hd hk).2 hn
 have hst:∀ l∈g.free :: cs,∀ d:Int,0≤d→d≤2→∀ x∈l.at_ d,0 < zf g.pages x∧zR g x=⟨1,d⟩∧zh g x=0:=fun l hl d h0 h2 x hx=>of_decide_eq_true (zF.1 (m2 l hl) d h0 h2 x hx)
 have harg:∀ l∈g.free :: cs,∀ d:Int,0≤d→d≤2→∀ x∈l.at_ d,x / 16 - 1=i→d=(g.pages.getD i.toNat default).arg:=by
  intro l hl d d0 d2 x hx e
  obtain ⟨_,r2,_⟩:=hst l hl d d0 d2 x hx
  unfold zR at r2
  rw [e] at r2
  rw [r2]
 have hof:∀ u∈cellStarts g.pages,u / 16 - 1=i→u∈g.free.at_ (g.pages.getD i.toNat default).arg∧u∈g.free.flat:=by
  intro u hu e
  have:=hall u hu e
  rw [zmS,List.mem_filter] at this
  exact ⟨this.1,zfi.2 ⟨_,hc.1,hc.2,this.1⟩⟩
 have hsub:(zm (g.free.set_ (g.pages.getD i.toNat default).arg (zdz g i) :: cs)).Sublist (zm (g.free :: cs)):=by
  show ((g.free.set_ _ (zdz g i)).flat ++ zm cs).Sublist (g.free.flat ++ zm cs)
  exact (zvj hc (by rw [zkS];exact List.filter_sublist)).append (List.Sublist.refl _)
 have key:=zjM (h:=g) (i:=i.toNat) (F:=g.free.set_ (g.pages.getD i.toNat default).arg (zdz g i)) (cs:=cs) m1 hd ?_ ?_ (fun u hu _=>m3 u hu) (m4.sublist hsub)
 ·obtain ⟨k1,k2,k3⟩:=key
  refine ⟨k1,fun hwh=>k2 fun u hu e=>?_,k3.trans (zbT (zbQ hm)).symm,rfl,rfl,hd.len,fun u hu=>?_,?_⟩
  ·unfold zo at hwh
   rw [hm,Bool.true_and,List.all_eq_true] at hwh
   have:=hwh u hu
   rw [Bool.or_eq_true] at this
   rcases this with k | k
   ·exact .inl (by simpa using k)
   ·refine .inr ?_
    have k:=List.contains_iff_mem.1 k
    have k:u∈g.free.flat ++ zm cs:=k
    show u∈(g.free.set_ _ (zdz g i)).flat ++ zm cs
    rcases List.mem_append.1 k with k | k
    ·refine List.mem_append.2 (.inl ?_)
     obtain ⟨d,d0,d2,hx⟩:=zfi.1 k
     refine zfi.2 ⟨d,d0,d2,?_⟩
     rw [zfA hc ⟨d0,d2⟩]
     split
     ·rename_i ed
      rw [zkS,List.mem_filter]
      exact ⟨by rw [← ed];exact hx,by rw [zjw,decide_eq_false (by omega)];rfl⟩
     ·exact hx
    ·exact List.mem_append.2 (.inr k)
  ·have:=hd.room u
   show zf (zar g.pages i.toNat) u=_
   rw [this]
   split
   ·rename_i e
    exact absurd (show zf (zar g.pages i.toNat) u=0 by rw [this,if_pos e]) hu
   ·rfl
  ·show (cellStarts (zar g.pages i.toNat)).Sublist _
   rw [hd.starts];exact List.filter_sublist
 ·intro u hu e
  obtain ⟨l,k⟩:=hof u hu (by omega)
  exact (hst g.free (List.mem_cons_self ..) _ hc.1 hc.2 u l).2.2
 ·intro l hl d d0 d2 x hx
  rcases List.mem_cons.1 hl with rfl | hl
  ·rw [zfA hc ⟨d0,d2⟩] at hx
   split at hx
   ·rename_i ed
    rw [zkS,List.mem_filter,zjw] at hx
    obtain ⟨x1,x2⟩:=hx
    refine ⟨zF.1 (m2 g.free (List.mem_cons_self ..)) d d0 d2 x (by rw [ed];exact x1),fun e=>?_⟩
    rw [decide_eq_true (by omega)] at x2
    cases x2
   ·rename_i ed
    exact ⟨zF.1 (m2 g.free (List.mem_cons_self ..)) d d0 d2 x hx,fun e=>ed (harg g.free (List.mem_cons_self ..) d d0 d2 x hx (by omega))⟩
  ·refine ⟨zF.1 (m2 l (List.mem_cons_of_mem _ hl)) d d0 d2 x hx,fun e=>?_⟩
   have hxs:=zt.2 (show zf g.pages x≠0 by have:=(hst l (List.mem_cons_of_mem _ hl) d d0 d2 x hx).1;omega)
   obtain ⟨_,k⟩:=hof x hxs (by omega)
   have e:zm (g.free :: cs)=g.free.flat ++ zm cs:=rfl
   rw [e] at m4
   exact (List.nodup_append.1 m4).2.2 x k x (zcw.2 ⟨l,hl,zfi.2 ⟨d,d0,d2,hx⟩⟩) rfl
theorem zvX {g:Hp} {cs:List Lists} (hm:zz g cs=true) {a:Int} (h:headE g a=0):Freed g (zhz g a) a cs:=by
 unfold zhz
 rw [if_pos h]
 split
 ·rename_i hk
  exact zpg hm h hk
 ·rename_i hk
  obtain ⟨hn0,hd⟩:=zdC h
  have hk1:=hd.kind.resolve_right hk
  have f:=zp6 hm h hk1
  obtain ⟨b1,b2,b3,b4,b5,b6,b7,b8⟩:=zj1 (g:=zcS g a) f.may hn0 hd hk1
  exact ⟨b1,fun k=>b2 (f.whole k),b3.trans f.used,b4.trans f.cards,(congrArg List.length b5).trans f.wlen,b6.trans f.plen,fun u hne hu x x0 x1=>(show zh _ _=zh (zcS g a) (u+x) by unfold zh;rw [b5]).trans (f.word u hne hu x x0 x1),fun u hu=>b7 u hu,b8⟩
end Go.Abs
namespace Go.Abs
open Go.Proofs Go.Proofs.YtlankjlnnimdoaaGreatDoor
set_option maxRecDepth 8000
def rkV (g:Hp):List CV:=g.enc.map .d
theorem zkp (g:Hp) (hs:g.small):Spec X 239 [] [g.tv] (Ret [(0,.vars (rkV g))] (.c (.ptr 0 0 0))):=by
 refine zd X_ok Tryz.f239 (by kernel_rfl) (by kernel_rfl) (by kernel_rfl) fun hb hH=>⟨rfl,?_⟩
 obtain ⟨h1,h2,h3,h4,h5,h6⟩:=hs
 show ADCall ..
 refine .mk _ _ (ze g.w h1) rfl ?_
 show ADCall ..
 refine .mk _ _ (zW g.pages h2) rfl ?_
 show ADCall ..
 refine .mk _ _ (zaf g.cards h3) rfl ?_
 show ∃ n,_
 refine ⟨4,?_⟩
 show ALoop ..
 refine .next ?_
 show ABr ..
 refine ⟨fun _=>?_,fun h=>absurd h (by decide)⟩
 show AOb ..
 refine ⟨by decide,?_⟩
 show ACall ..
 refine za (ze g.free.l0 h4) rfl ?_
 show AOb ..
 refine ⟨by decide,?_⟩
 show ALoop ..
 refine .next ?_
 show ABr ..
 refine ⟨fun _=>?_,fun h=>absurd h (by decide)⟩
 show AOb ..
 refine ⟨by decide,?_⟩
 show ACall ..
 refine za (ze g.free.l1 h5) rfl ?_
 show AOb ..
 refine ⟨by decide,?_⟩
 show ALoop ..
 refine .next ?_
 show ABr ..
 refine ⟨fun _=>?_,fun h=>absurd h (by decide)⟩
 show AOb ..
 refine ⟨by decide,?_⟩
 show ACall ..
 refine za (ze g.free.l2 h6) rfl ?_
 show AOb ..
 refine ⟨by decide,?_⟩
 show ALoop ..
 refine .next ?_
 show ABr ..
 refine ⟨fun h=>absurd h (by decide),fun _=>?_⟩
 show ARet ..
 exact ⟨[(_,0)],[(0,.vars (rkV g))],[.c (.ptr 0 0 0)],.cons _ _ _ _ (.c _ _ (.ptr1 _ _ _ _)) .nil,.old 0 _ _ _ _ rfl rfl (.vars _ _ (zb rfl)) .nil,rfl,rfl,rfl⟩
theorem zsX (w:List Int) (a n:Int) (hw:zbg w=true) (ha:16≤a∧0 < n∧a+n≤16+w.length):Spec X 236 [(16,.data .int w)] [.c (.own 16),.int a,.int n] (fun H r=>H=[(16,.data .int w)]∧r = .tup [.c (.view 16 (a - 16).toNat n.toNat),.int 0]):=by
 refine zd X_ok Tryz.f236 (by kernel_rfl) (by kernel_rfl) (by kernel_rfl) fun hb hH=>⟨rfl,?_⟩
 show ACall ..
 refine za (zeh w) rfl ?_
 rw [hw]
 show ABr (!true) _ _
 show ABr ..
 refine ⟨fun h=>absurd h (by decide),fun _=>?_⟩
 show ABr (decide (n < 0)) _ _
 refine ⟨fun h=>absurd (of_decide_eq_true h) (by omega),fun _=>?_⟩
 have h1:w.length≤1024:=by have:=of_decide_eq_true hw;omega
 have e1:IntKind.i64.wrap (a - 16)=a - 16:=zB (by omega) (by omega)
 have e2:IntKind.i64.wrap ((w.length:Int) - (a - 16))=w.length - (a - 16):=zB (by omega) (by omega)
 show ABr (bif decide (n > 0) then (bif (bif decide (a < 16) then true else decide (IntKind.i64.wrap (a - 16)≥(w.length:Int))) then true else decide (n > IntKind.i64.wrap ((w.length:Int) - IntKind.i64.wrap (a - 16)))) else false) _ _
 rw [e1,e2]
 refine ⟨fun h=>?_,fun _=>?_⟩
 ·exfalso
  have g1:decide (a < 16)=false:=decide_eq_false (by omega)
  have g2:decide (a - 16≥(w.length:Int))=false:=decide_eq_false (by omega)
  have g3:decide (n > (w.length:Int) - (a - 16))=false:=decide_eq_false (by omega)
  rw [g1,g2,g3] at h
  cases hn:decide (n > 0) <;> rw [hn] at h <;> exact absurd h (by decide)
 ·show ABr (decide (n=0)) _ _
  refine ⟨fun h=>absurd (of_decide_eq_true h) (by omega),fun _=>?_⟩
  show AOb ((0:Int)≤IntKind.i64.wrap (a - 16)∧IntKind.i64.wrap (a - 16)≤(w.length:Int)) _
  rw [e1]
  refine ⟨by omega,?_⟩
  show AOb ((0:Int)≤n∧n≤n∧n≤((((w.length:Int) - (a - 16)).toNat:Nat):Int)) _
  refine ⟨by omega,?_⟩
  show ARet ..
  exact ⟨[(16,16)],[(16,.data .int w)],[.c (.view 16 (a - 16).toNat n.toNat),.int 0],.cons _ _ _ _ (.view_eq2 (o:=(a - 16).toNat+0) (n:=(n - 0).toNat) (by simp [zaN]) rfl (by omega)) (.cons _ _ _ _ .same .nil),.old 16 16 _ _ _ rfl rfl (.data_eq rfl) .nil,rfl,rfl,rfl⟩
theorem zgW (w:List Int) (a n:Int) (hw:zbg w=true) (ha:16≤a∧0 < n∧a+n≤16+w.length):Spec X 234 [] [.c (.d (.sl .int w)),.int a,.int n] (Ret [] (.tup [.c (.d (.sl .int (zK w (a - 16).toNat (List.replicate n.toNat (0:Int))))),.int 0])):=by
 refine zd X_ok Tryz.f234 (by kernel_rfl) (by kernel_rfl) (by kernel_rfl) fun hb hH=>⟨rfl,?_⟩
 have h1:16≤w.length∧w.length≤1024:=by have:=of_decide_eq_true hw;omega
 show ACall ..
 refine .mk _ (zd4 w (by unfold most;omega) (by intro e;subst e;simp at h1)) fun H r ⟨eH,er⟩ _ _=>⟨.inl rfl,?_⟩
 subst eH er
 refine .hand [(_,16)] [(16,.data .int w)] [.c (.own 16),.int a,.int n] _ (.cons _ _ _ _ (.c _ _ (.own1 _ _)) (.cons _ _ _ _ .same (.cons _ _ _ _ .same .nil))) (.old 16 _ _ _ _ rfl rfl (.data_eq rfl) .nil) rfl (zsX w a n hw ha) ?_
 rintro H r ⟨rfl,rfl⟩ _ _
 refine ⟨rfl,.inl rfl,?_⟩
 show ABr ..
 refine ⟨fun h=>absurd h (by decide),fun _=>?_⟩
 show ARet ..
 exact ⟨[],[],[.c (.d (.sl .int (zK w (a - 16).toNat (List.replicate n.toNat (0:Int))))),.int 0],.cons _ _ _ _ (.frz (k:=.int) (l:=zK w (a - 16).toNat (List.replicate n.toNat (0:Int))) rfl rfl) (.cons _ _ _ _ .same .nil),.nil,rfl,rfl,rfl⟩
theorem zgJ (l:List Page) (h:l.length≤most) (hne:l≠[]):Spec X 64 [] [.c (.d (.sl .page l))] (Ret [(0,.data .page l)] (.c (.own 0))):=by
 refine zd X_ok Tryz.f64 (by kernel_rfl) (by kernel_rfl) (by kernel_rfl) fun hb _=>⟨rfl,?_⟩
 intro b (hnil:b=true→l=[])
 show ABr ..
 refine ⟨fun hb=>absurd (hnil hb) hne,fun hb=>?_⟩
 show AOb (0+l.length≤most) _
 refine ⟨by omega,?_⟩
 show ARet ..
 exact ⟨[(_,0)],[(0,.data .page l)],[.c (.own 0)],.cons _ _ _ _ (.c _ _ (.own1 _ _)) .nil,.old 0 _ _ _ _ rfl rfl (.data_eq rfl) .nil,rfl,rfl,rfl⟩
theorem zf6 (l o:List Page) (i:Int) (hm:zas l=true) (h0:0≤i) (h1:i < (l.length:Int)):Spec X 271 [] [.c (.d (.sl .page l)),.int i,.c (.d (.sl .page o))] (Ret [] (.c (.d (.sl .page (zbm l i.toNat o))))):=by
 refine zd X_ok Tryz.f271 (by kernel_rfl) (by kernel_rfl) (by kernel_rfl) fun hb hH=>⟨rfl,?_⟩
 have hb:=hb (.c (.d (.sl .page l))) (by simp)
 have hl:l.length≤zD:=hb.1
 show ACall ..
 refine .mk _ (zgJ l (by have:=(zah hm).2.2;unfold most;omega) (by intro e;subst e;simp at h1;omega)) fun H r ⟨eH,er⟩ _ _=>⟨.inl rfl,?_⟩
 subst eH er
 show AOb ((0:Int)≤i∧i≤(l.length:Int)) _
 refine ⟨by omega,?_⟩
 show ARet ..
 have e:zK l i.toNat (o.take ((l.length:Int) - i).toNat)=zbm l i.toNat o:=by unfold zbm;rw [show ((l.length:Int) - i).toNat=l.length - i.toNat by omega]
 exact ⟨[],[],[.c (.d (.sl .page (zbm l i.toNat o)))],.cons _ _ _ _ (.c _ _ (.frz_eq (k:=.page) (l:=zK l i.toNat (o.take ((l.length:Int) - i).toNat)) rfl e)) .nil,.nil,rfl,rfl,rfl⟩
theorem ztd {l:List Page} {i:Nat} (h:Drops l i):zag (l.getD i default)=true:=by
 have hp:=(zah h.may).1 i h.lt
 rcases h.kind with hk | hk
 ·have:=hp.1 hk
  exact decide_eq_true (.inr (.inl ⟨hk,this⟩))
 ·have:=hp.2 hk
  exact decide_eq_true (.inr (.inr ⟨hk,this⟩))
theorem zp1 (l:List Page) (i:Int) (h0:0≤i) (hd:Drops l i.toNat):Spec X 272 [] [.c (.d (.sl .page l)),.int i] (Ret [] (.tup [.c (.d (.sl .page (zar l i.toNat))),.int 0])):=by
 refine zd X_ok Tryz.f272 (by kernel_rfl) (by kernel_rfl) (by kernel_rfl) fun hb hH=>⟨rfl,?_⟩
 have hlt:=hd.lt
 show ACall ..
 refine za (zcG l) rfl ?_
 rw [hd.may]
 show ABr (!true) _ _
 show ABr ..
 refine ⟨fun h=>absurd h (by decide),fun _=>?_⟩
 show ABr (decide (i < 0)) _ _
 rw [decide_eq_false (by omega)]
 show ABr ..
 refine ⟨fun h=>absurd h (by decide),fun _=>?_⟩
 show ABr (decide (i≥(l.length:Int))) _ _
 rw [decide_eq_false (by omega)]
 show ABr ..
 refine ⟨fun h=>absurd h (by decide),fun _=>?_⟩
 show AOb ((0:Int)≤i∧i < (l.length:Int)) _
 refine ⟨by omega,?_⟩
 have hk:=hd.kind
 have hf:=ztd hd
 obtain ⟨a1,a2,_,_⟩:=hd.all
 show ABr ((l.getD i.toNat default).kind == 0) _ _
 rw [show ((l.getD i.toNat default).kind == 0)=false by simp only [beq_eq_false_iff_ne];omega]
 show ABr ..
 refine ⟨fun h=>absurd h (by decide),fun _=>?_⟩
 show AOb ((0:Int)≤i∧i < (l.length:Int)) _
 refine ⟨by omega,?_⟩
 show ABr ((l.getD i.toNat default).kind == 3) _ _
 rw [show ((l.getD i.toNat default).kind == 3)=false by simp only [beq_eq_false_iff_ne];omega]
 show ABr ..
 refine ⟨fun h=>absurd h (by decide),fun _=>?_⟩
 show AOb ((0:Int)≤i∧i < (l.length:Int)) _
 refine ⟨by omega,?_⟩
 show ABr ((l.getD i.toNat default).kind == 2) _ _
 unfold zar
 unfold sizeP at a1 a2 ⊢
 by_cases h2:(l.getD i.toNat default).kind=2
 ·rw [if_pos h2] at a1 a2 ⊢
  rw [show ((l.getD i.toNat default).kind == 2)=true by simp only [beq_iff_eq];exact h2]
  show ABr ..
  refine ⟨fun _=>?_,fun h=>absurd h (by decide)⟩
  show AOb ((0:Int)≤i∧i < (l.length:Int)) _
  refine ⟨by omega,?_⟩
  have hfk:=(of_decide_eq_true hf:_)
  have hln:=(zah hd.may).2.2
  show AOb ((0:Int)≤(l.getD i.toNat default).arg∧(l.getD i.toNat default).arg≤(l.getD i.toNat default).arg∧(l.getD i.toNat default).arg≤((most:Nat):Int)) _
  refine ⟨by unfold most;omega,?_⟩
  show ACall ..
  refine .frz [1440] [] [.c (.d (.sl .page l)),.int i,.c (.d (.sl .page (List.replicate (l.getD i.toNat default).arg.toNat ⟨0,0⟩)))] _ rfl .nil (.cons _ _ _ _ (.c _ _ (.same _)) (.cons _ _ _ _ (.c _ _ (.same _)) (.cons _ _ _ _ (.c _ _ (.frz _ _ rfl)) .nil))) rfl (zf6 l (List.replicate (l.getD i.toNat default).arg.toNat ⟨0,0⟩) i hd.may h0 (by omega)) ?_
  rintro H r ⟨rfl,rfl⟩ _ _
  show ARet ..
  exact zi rfl ⟨rfl,rfl⟩
 ·rw [if_neg h2] at a1 a2 ⊢
  rw [show ((l.getD i.toNat default).kind == 2)=false by simp only [beq_eq_false_iff_ne];exact h2]
  show ABr ..
  refine ⟨fun h=>absurd h (by decide),fun _=>?_⟩
  show AOb ((0:Int)≤(1:Int)∧(1:Int)≤(1:Int)∧(1:Int)≤((most:Nat):Int)) _
  refine ⟨by unfold most;omega,?_⟩
  show ACall ..
  refine .frz [1248] [] [.c (.d (.sl .page l)),.int i,.c (.d (.sl .page (List.replicate 1 ⟨0,0⟩)))] _ rfl .nil (.cons _ _ _ _ (.c _ _ (.same _)) (.cons _ _ _ _ (.c _ _ (.same _)) (.cons _ _ _ _ (.c _ _ (.frz _ _ rfl)) .nil))) rfl (zf6 l (List.replicate 1 ⟨0,0⟩) i hd.may h0 (by omega)) ?_
  rintro H r ⟨rfl,rfl⟩ _ _
  show ARet ..
  exact zi rfl ⟨rfl,rfl⟩
theorem zjE (g:Hp) (i:Int) (h0:0≤i) (hd:Drops g.pages i.toNat):Spec X 264 [(16,.vars (rkV g))] [.c (.ptr 16 0 0),.int i] (fun H r=>H=[(16,.vars (rkV { g with pages:=zar g.pages i.toNat }))]∧r = .tup []):=by
 refine zd X_ok Tryz.f264 (by kernel_rfl) (by kernel_rfl) (by kernel_rfl) fun hb hH=>⟨rfl,?_⟩
 show ACall ..
 refine za (zp1 g.pages i h0 hd) rfl ?_
 show ARet ..
 exact ⟨[(16,16)],[(16,.vars (rkV { g with pages:=zar g.pages i.toNat }))],[],.nil,.old 16 16 _ _ _ rfl rfl (.vars _ _ (zb rfl)) .nil,rfl,rfl,rfl⟩
theorem zql (g:Hp) (i a:Int) (h0:0≤i) (hd:Drops g.pages i.toNat):Spec X 275 [(16,.vars (rkV g))] [.c (.ptr 16 0 0),.int i,.int a] (fun H r=>H=[(16,.vars (rkV { g with pages:=zar g.pages i.toNat }))]∧r = .tup []):=by
 refine zd X_ok Tryz.f275 (by kernel_rfl) (by kernel_rfl) (by kernel_rfl) fun hb hH=>⟨rfl,?_⟩
 show ACall ..
 refine .hand [(16,16)] [(16,.vars (rkV g))] [.c (.ptr 16 0 0),.int i] _ (.cons _ _ _ _ (.c _ _ (.ptr _ _ _ _ rfl)) (.cons _ _ _ _ .same .nil)) (.old 16 16 _ _ _ rfl rfl (.vars _ _ (zb rfl)) .nil) rfl (zjE g i h0 hd) ?_
 rintro H r ⟨rfl,rfl⟩ _ _
 refine ⟨rfl,.inl rfl,?_⟩
 show ARet ..
 exact ⟨[(16,16)],[(16,.vars (rkV { g with pages:=zar g.pages i.toNat }))],[],.nil,.old 16 16 _ _ _ rfl rfl (.vars _ _ (zb rfl)) .nil,rfl,rfl,rfl⟩
theorem zk0 (g:Hp) (i:Int) (h0:0≤i) (hd:Drops g.pages i.toNat) (hk:(g.pages.getD i.toNat default).kind=1) (hok:g.free.ok):Spec X 241 [(16,.vars (rkV g))] [.c (.ptr 16 0 0),.int i] (fun H r=>H=[(16,.vars (rkV (zdb g i)))]∧r = .tup []):=by
 refine zd X_ok Tryz.f241 (by kernel_rfl) (by kernel_rfl) (by kernel_rfl) fun hb hH=>⟨rfl,?_⟩
 have hlt:=hd.lt
 show AOb ((0:Int)≤i∧i < (g.pages.length:Int)) _
 refine ⟨by omega,?_⟩
 show ABr ((g.pages.getD i.toNat default).kind != 1) _ _
 rw [show ((g.pages.getD i.toNat default).kind != 1)=false by rw [hk];rfl]
 show ABr ..
 refine ⟨fun h=>absurd h (by decide),fun _=>?_⟩
 have hl64:=(zah hd.may).2.2
 have e0:IntKind.i64.wrap (i+1)=i+1:=zB (by omega) (by omega)
 have e1:IntKind.i64.wrap (IntKind.i64.wrap (i+1) * 16)=16 * (i+1):=by rw [e0,zB (by omega) (by omega)];omega
 have e2:IntKind.i64.wrap (IntKind.i64.wrap (IntKind.i64.wrap (i+1) * 16)+16)=16 * (i+1)+16:=by rw [e1,zB (by omega) (by omega)]
 have sp:Spec X 263 [] [g.free.tv,.int (g.pages.getD i.toNat default).arg,.int (IntKind.i64.wrap (IntKind.i64.wrap (i+1) * 16)),.int (IntKind.i64.wrap (IntKind.i64.wrap (IntKind.i64.wrap (i+1) * 16)+16))] (Ret [] (.tup [(g.free.set_ (g.pages.getD i.toNat default).arg (zdz g i)).tv,.c (.d (.sl .int (zfr g i))),.int 0])):=by
  rw [e2,e1]
  exact zsM g.free _ _ _ (((zah hd.may).1 i.toNat hlt).1 hk) hok
 show ADCall ..
 refine .mk _ _ (sp) rfl ?_
 show ACall ..
 refine za (ziS (g.pages.getD i.toNat default).arg) rfl ?_
 show ABr (decide (((zfr g i).length:Int)=ze4 (g.pages.getD i.toNat default).arg)) _ _
 unfold zdb
 by_cases hn:((zfr g i).length:Int)=ze4 (g.pages.getD i.toNat default).arg
 ·rw [if_pos hn,decide_eq_true hn]
  show ABr ..
  refine ⟨fun _=>?_,fun h=>absurd h (by decide)⟩
  show ACall ..
  refine .hand [(16,16)] [(16,.vars (rkV { g with free:=g.free.set_ (g.pages.getD i.toNat default).arg (zdz g i) }))] [.c (.ptr 16 0 0),.int i] _ (.cons _ _ _ _ (.c _ _ (.ptr _ _ _ _ rfl)) (.cons _ _ _ _ .same .nil)) (.old 16 16 _ _ _ rfl rfl (.vars _ _ (zb rfl)) .nil) rfl (zjE { g with free:=g.free.set_ (g.pages.getD i.toNat default).arg (zdz g i) } i h0 hd) ?_
  rintro H r ⟨rfl,rfl⟩ _ _
  refine ⟨rfl,.inl rfl,?_⟩
  show ARet ..
  exact ⟨[(16,16)],[(16,.vars (rkV { g with free:=g.free.set_ (g.pages.getD i.toNat default).arg (zdz g i),pages:=zar g.pages i.toNat }))],[],.nil,.old 16 16 _ _ _ rfl rfl (.vars _ _ (zb rfl)) .nil,rfl,rfl,rfl⟩
 ·rw [if_neg hn,decide_eq_false hn]
  show ABr ..
  refine ⟨fun h=>absurd h (by decide),fun _=>?_⟩
  show ARet ..
  exact ⟨[(16,16)],[(16,.vars (rkV g))],[],.nil,.old 16 16 _ _ _ rfl rfl (.vars _ _ (zb rfl)) .nil,rfl,rfl,rfl⟩
theorem zed {l:Lists} {c:Int} {x:List Int} (h:l.ok) (hx:x.length≤most):(l.set_ c x).ok:=by
 obtain ⟨h1,h2,h3⟩:=h
 unfold Lists.set_
 split
 ·exact ⟨hx,h2,h3⟩
 ·split
  ·exact ⟨h1,hx,h3⟩
  ·exact ⟨h1,h2,hx⟩
theorem zpL {g:Hp} (hs:g.small):g.free.ok:=by
 exact hs.2.2.2
theorem zqg (g:Hp) (i a:Int) (h0:0≤i) (hd:Drops g.pages i.toNat) (hk:(g.pages.getD i.toNat default).kind=1) (hs:g.small) (h1:(g.free.at_ (g.pages.getD i.toNat default).arg).length < most) :
  Spec X 274 [(16,.vars (rkV g))] [.c (.ptr 16 0 0),.int i,.int a] (fun H r=>H=[(16,.vars (rkV (zdb (zlx g i a) i)))]∧r = .tup []):=by
 refine Spec.fz (zd zjt Tryz.f274 (by kernel_rfl) (by kernel_rfl) (by kernel_rfl) fun hb hH=>⟨rfl,?_⟩)
 have hlt:=hd.lt
 have harg:=((zah hd.may).1 i.toNat hlt).1 hk
 show AOb ((0:Int)≤i∧i < (g.pages.length:Int)) _
 refine ⟨by omega,?_⟩
 show ADCall ..
 refine .mk _ _ ((zey g.free (g.pages.getD i.toNat default).arg [a] harg (zpL hs) h1).uz) rfl ?_
 show ACall ..
 refine .hand [(16,16)] [(16,.vars (rkV (zlx g i a)))] [.c (.ptr 16 0 0),.int i] _ (.cons _ _ _ _ (.c _ _ (.ptr _ _ _ _ rfl)) (.cons _ _ _ _ .same .nil)) (.old 16 16 _ _ _ rfl rfl (.vars _ _ (zb rfl)) .nil) rfl (zk0 (zlx g i a) i h0 hd hk (zed (zpL hs) (by rw [List.length_append];exact h1))).uz ?_
 rintro H r ⟨rfl,rfl⟩ _ _
 refine ⟨rfl,.inl rfl,?_⟩
 show ARet ..
 exact ⟨[(16,16)],[(16,.vars (rkV (zdb (zlx g i a) i)))],[],.nil,.old 16 16 _ _ _ rfl rfl (.vars _ _ (zb rfl)) .nil,rfl,rfl,rfl⟩
theorem zpC (a:Int) (h:0≤a) (h' : a < 9223372036854775808):Spec X 273 [] [.int a] (Ret [] (.int (pgI a))):=by
 refine zd X_ok Tryz.f273 (by kernel_rfl) (by kernel_rfl) (by kernel_rfl) fun hb hH=>⟨rfl,?_⟩
 show AOb ..
 refine ⟨by decide,?_⟩
 show ARet ..
 refine zaR (x:=IntKind.i64.wrap (tdv a 16 - 1)) ?_ ⟨rfl,rfl⟩
 rw [zmJ h (by omega) h']
 exact zB (by omega) (by omega)
set_option maxRecDepth 60000 in
set_option maxHeartbeats 2000000 in
theorem zsq (g:Hp) (a:Int) (hl:g.light) (hs:g.small):Spec X 265 [] [g.tv,.int a] (Ret [] (.tup [(zhz g a).tv,.int (headE g a)])):=by
 refine zd X_ok Tryz.f265 (by kernel_rfl) (by kernel_rfl) (by kernel_rfl) fun hb hH=>⟨rfl,?_⟩
 show ACall ..
 refine za (zav g a hl) rfl ?_
 unfold zhz
 by_cases h:headE g a=0
 ·show ABr (!decide (headE g a=0)) _ _
  rw [decide_eq_true h,if_pos h]
  show ABr ..
  refine ⟨fun h=>absurd h (by decide),fun _=>?_⟩
  obtain ⟨hm,hr,_⟩:=zV h
  obtain ⟨hn0,hd⟩:=zdC h
  show ACall ..
  refine .mk _ (zkp g hs) fun H r ⟨eH,er⟩ _ _=>⟨.inl rfl,?_⟩
  subst eH er
  obtain ⟨z1,z2,z3,z4⟩:=zbO h
  obtain ⟨_,_,hwl,_,_,hl64⟩:=zr (zM hm)
  have hlt:=hd.lt
  have hwl' : (zbb g a).length=g.w.length:=zev h
  have hs' : ({ g with w:=zbb g a }:Hp).small:=⟨by show (zbb g a).length≤most;rw [hwl'];exact hs.1,hs.2⟩
  show ADCall ..
  refine .mk _ _ (zei g.pages a) rfl ?_
  show ADCall ..
  refine .mk _ _ (zgW g.w a (zf g.pages a) z1 ⟨z2,z3,z4⟩) rfl ?_
  show ACall ..
  refine za (zpC a (by omega) (by unfold pgI at hlt hn0;omega)) rfl ?_
  show AOb ((0:Int)≤pgI a∧pgI a < (g.pages.length:Int)) _
  refine ⟨by omega,?_⟩
  show ABr ((g.pages.getD (pgI a).toNat default).kind == 2) _ _
  by_cases hk:(g.pages.getD (pgI a).toNat default).kind=2
  ·rw [if_pos hk,show ((g.pages.getD (pgI a).toNat default).kind == 2)=true by simp only [beq_iff_eq];exact hk]
   show ABr ..
   refine ⟨fun _=>?_,fun h=>absurd h (by decide)⟩
   show ACall ..
   refine .hand [(512,16)] [(16,.vars (rkV { g with w:=zbb g a }))] [.c (.ptr 16 0 0),.int (pgI a),.int a] _ (.cons _ _ _ _ (.c _ _ (.ptr _ _ _ _ rfl)) (.cons _ _ _ _ .same (.cons _ _ _ _ .same .nil))) (.old 16 512 _ _ _ rfl rfl (.vars _ _ (zb rfl)) .nil) rfl (zql { g with w:=zbb g a } (pgI a) a hn0 hd) ?_
   rintro H r ⟨rfl,rfl⟩ _ _
   refine ⟨rfl,.inl rfl,?_⟩
   show ARet ..
   exact zi rfl ⟨rfl,by rw [h];rfl⟩
  ·rw [if_neg hk,show ((g.pages.getD (pgI a).toNat default).kind == 2)=false by simp only [beq_eq_false_iff_ne];exact hk]
   show ABr ..
   refine ⟨fun h=>absurd h (by decide),fun _=>?_⟩
   show ACall ..
   refine .hand [(512,16)] [(16,.vars (rkV { g with w:=zbb g a }))] [.c (.ptr 16 0 0),.int (pgI a),.int a] _ (.cons _ _ _ _ (.c _ _ (.ptr _ _ _ _ rfl)) (.cons _ _ _ _ .same (.cons _ _ _ _ .same .nil))) (.old 16 512 _ _ _ rfl rfl (.vars _ _ (zb rfl)) .nil) rfl (zqg { g with w:=zbb g a } (pgI a) a hn0 hd (hd.kind.resolve_right hk) hs' (Nat.lt_of_le_of_lt (zk2 hm _) (by unfold most;omega))) ?_
   rintro H r ⟨rfl,rfl⟩ _ _
   refine ⟨rfl,.inl rfl,?_⟩
   show ARet ..
   exact zi rfl ⟨rfl,by rw [h];rfl⟩
 ·show ABr (!decide (headE g a=0)) _ _
  rw [decide_eq_false h,if_neg h]
  show ABr ..
  refine ⟨fun _=>?_,fun h=>absurd h (by decide)⟩
  show ARet ..
  exact ⟨[],[],_,.cons _ _ _ _ (.agg _ _ (.cons _ _ _ _ (.nilsl .int) (.cons _ _ _ _ (.nilsl .page) (.cons _ _ _ _ (.nilsl .int) (.cons _ _ _ _ (.nilsl .int) (.cons _ _ _ _ (.nilsl .int) (.cons _ _ _ _ (.nilsl .bool) .nil))))))) (.cons _ _ _ _ .same .nil),.nil,rfl,rfl,rfl⟩
end Go.Abs
namespace Go.Abs
open Go.Proofs Go.Proofs.YtlankjlnnimdoaaGreatDoor
set_option maxRecDepth 8000
def zak (l:List Page) (n:Nat) (i:Nat):Bool:=decide (i+n≤l.length) && ((l.drop i).take n).all fun p=>decide (p.kind=0)
def zaT (l:List Page) (n:Nat):Option Nat:=(List.range l.length).find? (zak l n)
theorem zjg {l:List Page} {i n j:Nat} (h:j < n):((l.drop i).take n).getD j default=l.getD (i+j) default:=by
 rw [List.getD_eq_getElem?_getD,List.getD_eq_getElem?_getD,List.getElem?_take,if_pos h,List.getElem?_drop]
theorem zax {l:List Page} {n i:Nat}:zak l n i=true↔i+n≤l.length∧∀ j,j < n→(l.getD (i+j) default).kind=0:=by
 unfold zak
 rw [Bool.and_eq_true,decide_eq_true_eq,List.all_eq_true]
 constructor
 ·rintro ⟨h1,h2⟩
  refine ⟨h1,fun j hj=>?_⟩
  have:=h2 (l.getD (i+j) default) (by
   rw [← zjg hj,List.getD_eq_getElem?_getD,List.getElem?_eq_getElem (by rw [List.length_take,List.length_drop];omega)]
   exact List.getElem_mem _)
  exact of_decide_eq_true this
 ·rintro ⟨h1,h2⟩
  refine ⟨h1,fun p hp=>?_⟩
  obtain ⟨j,hj,rfl⟩:=List.mem_iff_getElem.1 hp
  have hj' : j < n:=by rw [List.length_take] at hj;omega
  have:=h2 j hj'
  rw [← zjg hj',List.getD_eq_getElem?_getD,List.getElem?_eq_getElem hj] at this
  exact decide_eq_true this
theorem zrt {l:List Page} {n:Nat} (h:∀ i,i < l.length→zak l n i=false):zaT l n=none:=by
 unfold zaT
 rw [List.find?_eq_none]
 intro i hi
 rw [h i (List.mem_range.1 hi)]
 decide
theorem ztW {l:List Page} {n i:Nat} (hi:i < l.length) (h:zak l n i=true) (hn:∀ j,j < i→zak l n j=false):zaT l n=some i:=by
 unfold zaT
 rw [List.find?_range_eq_some]
 exact ⟨h,List.mem_range.2 hi,fun j hj=>by rw [hn j hj];rfl⟩
theorem zbF {l:List Page} {n i:Nat} (h:zaT l n=some i):zak l n i=true∧i < l.length:=by
 unfold zaT at h
 exact ⟨List.find?_some h,List.mem_range.1 (List.mem_of_find?_eq_some h)⟩
theorem zkG (l:List Page) (n:Nat) (hm:zas l=true) (h1:1≤n) (h4:n≤4):Spec X 256 [] [.c (.d (.sl .page l)),.int (n:Int)] (Ret [] (.tup [.int (((zaT l n).getD 0:Nat):Int),.bo (zaT l n).isSome])):=by
 refine zd X_ok Tryz.f256 (by kernel_rfl) (by kernel_rfl) (by kernel_rfl) fun hb hH=>⟨rfl,?_⟩
 have hl64:=(zah hm).2.2
 show ACall ..
 refine za (zcG l) rfl ?_
 rw [hm]
 show AIf ..
 refine ⟨fun _=>?_,fun h=>absurd ⟨(by rfl),trivial⟩ h⟩
 show ACall ..
 refine za (zej (n:Int) 1 4) rfl ?_
 rw [decide_eq_true (show (1:Int)≤(n:Int)∧(n:Int)≤4 by omega)]
 show ABr ..
 refine ⟨fun h=>absurd h (by decide),fun _=>?_⟩
 show ∃ n,_
 refine ⟨0,ALoop.inv (ι:={i:Nat // i≤l.length∧∀ j,j < i→zak l n j=false}) (fun q=>⟨[(0,.c (.d (.sl .page (l)))),(1,.int ((n:Int))),(6,.int ((q.1:Int)))],[],32⟩) (fun q=>l.length+1 - q.1) ⟨0,Nat.zero_le _,fun j hj=>absurd hj (by omega)⟩ ?_ ?_⟩
 ·exact ⟨[],(by repeat' first | exact .nil | refine .cons _ _ _ ?_ ?_ | exact .same | exact .c _ _ (.own _ _ rfl) | exact .c _ _ (.ptr _ _ _ _ rfl) | exact .c _ _ (.frz _ _ rfl) | exact .any _),(by exact .nil),(by rfl)⟩
 rintro ⟨i,hi,hn⟩
 have hi:i≤l.length:=hi
 have hn:∀ j,j < i→zak l n j=false:=hn
 have wi:IntKind.i64.wrap ((i:Int)+1)=((i+1:Nat):Int):=zad (i:=i) (by unfold zD;omega)
 have win:IntKind.i64.wrap ((i:Int)+(n:Int))=(i:Int)+(n:Int):=zB (by omega) (by omega)
 show ABr (decide (IntKind.i64.wrap ((i:Int)+(n:Int))≤(l.length:Int))) _ _
 refine ⟨fun h=>?_,fun h=>?_⟩
 ·rw [win] at h
  have hin:i+n≤l.length:=by have:=of_decide_eq_true h;omega
  show AOb ((0:Int)≤(i:Int)∧(i:Int)≤(l.length:Int)) _
  refine ⟨by omega,?_⟩
  have ec:cut (cut l (some (i:Int)) none) none (some (n:Int))=(l.drop i).take n:=by
   unfold cut
   simp
  have ecl:(cut l (some (i:Int)) none).length=l.length - i:=by
   unfold cut
   simp
  show AOb ((0:Int)≤(n:Int)∧(n:Int)≤((cut l (some (i:Int)) none).length:Int)) _
  refine ⟨by rw [ecl];omega,?_⟩
  have el:((cut (cut l (some (i:Int)) none) none (some (n:Int))).length:Int)=(n:Int):=by rw [ec,List.length_take,List.length_drop];omega
  have erl:((l.drop i).take n).length=n:=by rw [List.length_take,List.length_drop];omega
  show ∃ n,_
  refine ⟨0,ALoop.inv (ι:={k:Nat // k≤n∧∀ j,j < k→(l.getD (i+j) default).kind=0}) (fun q=>⟨[(0,.c (.d (.sl .page (l)))),(1,.int ((n:Int))),(6,.int ((i:Int))),(29,.c (.d (.sl .page (((l.drop i).take n))))),(30,.int ((n:Int))),(31,.int ((q.1:Int)))],[],32⟩) (fun q=>n - q.1) ⟨0,Nat.zero_le _,fun j hj=>absurd hj (by omega)⟩ ?_ ?_⟩
  ·exact ⟨[],(by repeat' first | exact .nil | refine .cons _ _ _ ?_ ?_ | exact .sl_eq (k:=.page) ec | exact .int_eq el | exact .same | exact .c _ _ (.own _ _ rfl) | exact .c _ _ (.ptr _ _ _ _ rfl) | exact .c _ _ (.frz _ _ rfl) | exact .any _),(by exact .nil),(by rfl)⟩
  rintro ⟨k,hk,hz⟩
  have hk:k≤n:=hk
  have hz:∀ j,j < k→(l.getD (i+j) default).kind=0:=hz
  show ABr (decide ((k:Int) < (n:Int))) _ _
  refine ⟨fun h=>?_,fun h=>?_⟩
  ·have hkn:k < n:=by have:=of_decide_eq_true h;omega
   have wk:IntKind.i64.wrap ((k:Int)+1)=((k+1:Nat):Int):=zad (i:=k) (by unfold zD;omega)
   show AOb ((0:Int)≤(k:Int)∧(k:Int) < (((l.drop i).take n).length:Int)) _
   refine ⟨by rw [erl];omega,?_⟩
   show ABr ((((l.drop i).take n).getD k default).kind != 0) _ _
   rw [zjg hkn]
   refine ⟨fun h=>?_,fun h=>?_⟩
   ·have hf:zak l n i=false:=by
     cases hf:zak l n i with
     | false=>rfl
     | true=>rw [(zax.1 hf).2 k hkn] at h;exact absurd h (by decide)
    have hnn:∀ j,j < i+1→zak l n j=false:=fun j hj=>by
     by_cases e:j=i
     ·rw [e];exact hf
     ·exact hn j (by omega)
    show ARound ..
    exact ⟨⟨i+1,by omega,hnn⟩,(by dsimp only;omega),[],(by repeat' first | exact .nil | refine .cons _ _ _ ?_ ?_ | exact .int_eq wi | exact .same | exact .c _ _ (.own _ _ rfl) | exact .c _ _ (.ptr _ _ _ _ rfl) | exact .c _ _ (.frz _ _ rfl) | exact .any _),(by exact .nil),(by rfl)⟩
   ·have h0:(l.getD (i+k) default).kind=0:=by simpa using h
    have hzz:∀ j,j < k+1→(l.getD (i+j) default).kind=0:=fun j hj=>by
     by_cases e:j=k
     ·rw [e];exact h0
     ·exact hz j (by omega)
    show ARound ..
    exact ⟨⟨k+1,hkn,hzz⟩,(by dsimp only;omega),[],(by repeat' first | exact .nil | refine .cons _ _ _ ?_ ?_ | exact .int_eq wk | exact .same | exact .c _ _ (.own _ _ rfl) | exact .c _ _ (.ptr _ _ _ _ rfl) | exact .c _ _ (.frz _ _ rfl) | exact .any _),(by exact .nil),(by rfl)⟩
  ·have hkn:k=n:=by have:=of_decide_eq_false h;omega
   have e:zaT l n=some i:=ztW (by omega) (zax.2 ⟨hin,by rw [← hkn];exact hz⟩) hn
   rw [e]
   show ARet ..
   exact zi rfl ⟨rfl,rfl⟩
 ·rw [win] at h
  have hin:l.length < i+n:=by have:=of_decide_eq_false h;omega
  have e:zaT l n=none:=zrt fun j hj=>by
   by_cases hji:j < i
   ·exact hn j hji
   ·cases hf:zak l n j with
    | false=>rfl
    | true=>have:=(zax.1 hf).1;omega
  rw [e]
  show ARet ..
  exact zi rfl ⟨rfl,rfl⟩
theorem zn6 (l:List Page) (hz:∀ j,j < l.length→(l.getD j default).kind=0):Spec X 276 [] [.c (.d (.sl .page l)),.int 0] (Ret [] (.int (l.length:Int))):=by
 refine zd X_ok Tryz.f276 (by kernel_rfl) (by kernel_rfl) (by kernel_rfl) fun hb hH=>⟨rfl,?_⟩
 have hlm:l.length≤zD:=(hb (.c (.d (.sl .page l))) (by simp)).1
 show ∃ n,_
 refine ⟨0,ALoop.inv (ι:={k:Nat // k≤l.length}) (fun q=>⟨[(1,.int (0)),(5,.int ((q.1:Int))),(8,.c (.d (.sl .page (l)))),(9,.int ((l.length:Int))),(10,.int ((q.1:Int)))],[],32⟩) (fun q=>l.length - q.1) ⟨0,Nat.zero_le _⟩ ?_ ?_⟩
 ·exact ⟨[],(by repeat' first | exact .nil | refine .cons _ _ _ ?_ ?_ | exact .same | exact .c _ _ (.own _ _ rfl) | exact .c _ _ (.ptr _ _ _ _ rfl) | exact .c _ _ (.frz _ _ rfl) | exact .any _),(by exact .nil),(by rfl)⟩
 rintro ⟨k,hk⟩
 have hk:k≤l.length:=hk
 show ABr (decide ((k:Int) < (l.length:Int))) _ _
 refine ⟨fun h=>?_,fun h=>?_⟩
 ·have hkl:k < l.length:=by have:=of_decide_eq_true h;omega
  have wk:IntKind.i64.wrap ((k:Int)+1)=((k+1:Nat):Int):=zad (i:=k) (by omega)
  show AOb ((0:Int)≤(k:Int)∧(k:Int) < (l.length:Int)) _
  refine ⟨by omega,?_⟩
  show ABr ((l.getD k default).kind == 0) _ _
  rw [show ((l.getD k default).kind == 0)=true by simpa using hz k hkl]
  show ABr ..
  refine ⟨fun _=>?_,fun h=>absurd h (by decide)⟩
  show ARound ..
  exact ⟨⟨k+1,hkl⟩,(by dsimp only;omega),[],(by repeat' first | exact .nil | refine .cons _ _ _ ?_ ?_ | exact .int_eq wk | exact .same | exact .c _ _ (.own _ _ rfl) | exact .c _ _ (.ptr _ _ _ _ rfl) | exact .c _ _ (.frz _ _ rfl) | exact .any _),(by exact .nil),(by rfl)⟩
 ·have hkl:k=l.length:=by have:=of_decide_eq_false h;omega
  show ARet ..
  refine zaR (x:=(k:Int)) (by rw [hkl]) ⟨rfl,rfl⟩
theorem zkQ (l:List Page) (i n:Nat) (hm:zas l=true) (hf:zak l n i=true):Spec X 269 [] [.c (.d (.sl .page l)),.int (i:Int),.int (n:Int)] (Ret [] (.int 0)):=by
 refine zd X_ok Tryz.f269 (by kernel_rfl) (by kernel_rfl) (by kernel_rfl) fun hb hH=>⟨rfl,?_⟩
 have hl64:=(zah hm).2.2
 obtain ⟨h1,h2⟩:=zax.1 hf
 have wl:IntKind.i64.wrap ((l.length:Int) - (n:Int))=(l.length:Int) - (n:Int):=zB (by omega) (by omega)
 show ABr (bif decide ((i:Int) < 0) then true else decide ((i:Int) > IntKind.i64.wrap ((l.length:Int) - (n:Int)))) _ _
 rw [decide_eq_false (show ¬ (i:Int) < 0 by omega),wl,decide_eq_false (show ¬ (i:Int) > (l.length:Int) - (n:Int) by omega)]
 show ABr ..
 refine ⟨fun h=>absurd h (by decide),fun _=>?_⟩
 show AOb ((0:Int)≤(i:Int)∧(i:Int)≤(l.length:Int)) _
 refine ⟨by omega,?_⟩
 have ec:cut (cut l (some (i:Int)) none) none (some (n:Int))=(l.drop i).take n:=by
  unfold cut
  simp
 have ecl:(cut l (some (i:Int)) none).length=l.length - i:=by
  unfold cut
  simp
 show AOb ((0:Int)≤(n:Int)∧(n:Int)≤((cut l (some (i:Int)) none).length:Int)) _
 refine ⟨by rw [ecl];omega,?_⟩
 have erl:((l.drop i).take n).length=n:=by rw [List.length_take,List.length_drop];omega
 have hc:=zn6 ((l.drop i).take n) (fun j hj=>by rw [zjg (by omega)];exact h2 j (by omega))
 rw [← ec] at hc
 show ACall ..
 refine za (hc) rfl ?_
 show ABr (decide (((cut (cut l (some (i:Int)) none) none (some (n:Int))).length:Int) < (n:Int))) _ _
 rw [ec,erl]
 show ABr ..
 refine ⟨fun h=>absurd h (by simp),fun _=>?_⟩
 show ARet ..
 exact zi rfl ⟨rfl,rfl⟩
theorem zpM (l:List Page) (i:Nat) (k:Int) (hm:zas l=true) (hk:0≤k∧k≤2) (hf:zak l 1 i=true):Spec X 266 [] [.c (.d (.sl .page l)),.int (i:Int),.int k] (Ret [] (.tup [.c (.d (.sl .page (zbm l i [⟨1,k⟩]))),.int 0])):=by
 refine Spec.fz (zd zjt Tryz.f266 (by kernel_rfl) (by kernel_rfl) (by kernel_rfl) fun hb hH=>⟨rfl,?_⟩)
 obtain ⟨h1,h2⟩:=zax.1 hf
 show ACall ..
 refine za ((zcG l).uz) rfl ?_
 rw [hm]
 show AIf ..
 refine ⟨fun _=>?_,fun h=>absurd ⟨(by rfl),trivial⟩ h⟩
 show ACall ..
 refine za ((zej k 0 2).uz) rfl ?_
 rw [decide_eq_true hk]
 show ABr ..
 refine ⟨fun h=>absurd h (by decide),fun _=>?_⟩
 show ACall ..
 refine za ((zkQ l i 1 hm hf).uz) rfl ?_
 show ABr ..
 refine ⟨fun h=>absurd h (by decide),fun _=>?_⟩
 have hp:=zf6 l [⟨1,k⟩] (i:Int) hm (by omega) (by omega)
 rw [show (i:Int).toNat=i from rfl] at hp
 show ACall ..
 refine za (hp.uz) rfl ?_
 show ARet ..
 exact zi rfl ⟨rfl,rfl⟩
abbrev u64 (n:Int):TV:=.c (.d (.lit (.int .u64 n)))
theorem zqJ (n:Int) (hn:n=1∨n=2∨n=3∨n=4):Spec X 279 [] [u64 1,u64 n] (Ret [] (.tup [u64 0,u64 n])):=by
 refine zd X_ok Tryz.f279 (by kernel_rfl) (by kernel_rfl) (by kernel_rfl) fun hb hH=>⟨rfl,?_⟩
 rcases hn with rfl | rfl | rfl | rfl
 ·show AOb ..
  refine ⟨by decide,?_⟩
  show AOb ..
  refine ⟨by decide,?_⟩
  show AOb ..
  refine ⟨by decide,?_⟩
  show AOb ..
  refine ⟨by decide,?_⟩
  show AOb ..
  refine ⟨by decide,?_⟩
  show ARet ..
  exact zi rfl ⟨rfl,rfl⟩
 ·show AOb ..
  refine ⟨by decide,?_⟩
  show AOb ..
  refine ⟨by decide,?_⟩
  show AOb ..
  refine ⟨by decide,?_⟩
  show AOb ..
  refine ⟨by decide,?_⟩
  show AOb ..
  refine ⟨by decide,?_⟩
  show ARet ..
  exact zi rfl ⟨rfl,rfl⟩
 ·show AOb ..
  refine ⟨by decide,?_⟩
  show AOb ..
  refine ⟨by decide,?_⟩
  show AOb ..
  refine ⟨by decide,?_⟩
  show AOb ..
  refine ⟨by decide,?_⟩
  show AOb ..
  refine ⟨by decide,?_⟩
  show ARet ..
  exact zi rfl ⟨rfl,rfl⟩
 ·show AOb ..
  refine ⟨by decide,?_⟩
  show AOb ..
  refine ⟨by decide,?_⟩
  show AOb ..
  refine ⟨by decide,?_⟩
  show AOb ..
  refine ⟨by decide,?_⟩
  show AOb ..
  refine ⟨by decide,?_⟩
  show ARet ..
  exact zi rfl ⟨rfl,rfl⟩
theorem zhk (n:Int) (hn:n=1∨n=2∨n=3∨n=4):Spec X 277 [] [u64 1,u64 n] (Ret [] (.tup [u64 0,u64 n])):=by
 refine zd X_ok Tryz.f277 (by kernel_rfl) (by kernel_rfl) (by kernel_rfl) fun hb hH=>⟨rfl,?_⟩
 show ABr ..
 refine ⟨fun h=>absurd h (by decide),fun _=>?_⟩
 show ACall ..
 refine za (zqJ n hn) rfl ?_
 show ARet ..
 exact zi rfl ⟨rfl,rfl⟩
set_option maxHeartbeats 4000000 in
theorem zpc (n:Nat) (h1:1≤n) (h4:n≤4):Spec X 270 [] [.c (.d (.sl .page [⟨3,0⟩])),.int (n:Int)] (Ret [(0,.data .page (List.replicate n ⟨3,0⟩))] (.c (.own 0))):=by
 refine zd X_ok Tryz.f270 (by kernel_rfl) (by kernel_rfl) (by kernel_rfl) fun hb hH=>⟨rfl,?_⟩
 have hn:n=1∨n=2∨n=3∨n=4:=by omega
 rcases hn with rfl | rfl | rfl | rfl
 ·show ABr ..
  refine ⟨fun h=>absurd h (by decide),fun _=>?_⟩
  show ACall ..
  refine za (zhk 1 (by decide)) rfl ?_
  show ABr ..
  refine ⟨fun h=>absurd h (by decide),fun _=>?_⟩
  show AOb ..
  refine ⟨by decide,?_⟩
  show ∃ n,_
  refine ⟨4,?_⟩
  show ALoop ..
  refine .next ?_
  show ABr ..
  refine ⟨fun h=>absurd h (by decide),fun _=>?_⟩
  show ARet ..
  exact ⟨[(736,0)],[(0,.data .page (List.replicate 1 ⟨3,0⟩))],[.c (.own 0)],.cons _ _ _ _ (.c _ _ (.own1 _ _)) .nil,.old 0 736 _ _ _ rfl rfl (.data_eq rfl) .nil,rfl,rfl,rfl⟩
 ·show ABr ..
  refine ⟨fun h=>absurd h (by decide),fun _=>?_⟩
  show ACall ..
  refine za (zhk 2 (by decide)) rfl ?_
  show ABr ..
  refine ⟨fun h=>absurd h (by decide),fun _=>?_⟩
  show AOb ..
  refine ⟨by decide,?_⟩
  show ∃ n,_
  refine ⟨4,?_⟩
  show ALoop ..
  refine .next ?_
  show ABr ..
  refine ⟨fun _=>?_,fun h=>absurd h (by decide)⟩
  show AOb ..
  refine ⟨by decide,?_⟩
  show AOb ..
  refine ⟨by decide,?_⟩
  show ALoop ..
  refine .next ?_
  show ABr ..
  refine ⟨fun h=>absurd h (by decide),fun _=>?_⟩
  show ARet ..
  exact ⟨[(736,0)],[(0,.data .page (List.replicate 2 ⟨3,0⟩))],[.c (.own 0)],.cons _ _ _ _ (.c _ _ (.own1 _ _)) .nil,.old 0 736 _ _ _ rfl rfl (.data_eq rfl) .nil,rfl,rfl,rfl⟩
 ·show ABr ..
  refine ⟨fun h=>absurd h (by decide),fun _=>?_⟩
  show ACall ..
  refine za (zhk 3 (by decide)) rfl ?_
  show ABr ..
  refine ⟨fun h=>absurd h (by decide),fun _=>?_⟩
  show AOb ..
  refine ⟨by decide,?_⟩
  show ∃ n,_
  refine ⟨4,?_⟩
  show ALoop ..
  refine .next ?_
  show ABr ..
  refine ⟨fun _=>?_,fun h=>absurd h (by decide)⟩
  show AOb ..
  refine ⟨by decide,?_⟩
  show AOb ..
  refine ⟨by decide,?_⟩
  show ALoop ..
  refine .next ?_
  show ABr ..
  refine ⟨fun _=>?_,fun h=>absurd h (by decide)⟩
  show AOb ..
  refine ⟨by decide,?_⟩
  show AOb ..
  refine ⟨by decide,?_⟩
  show ALoop ..
  refine .next ?_
  show ABr ..
  refine ⟨fun h=>absurd h (by decide),fun _=>?_⟩
  show ARet ..
  exact ⟨[(736,0)],[(0,.data .page (List.replicate 3 ⟨3,0⟩))],[.c (.own 0)],.cons _ _ _ _ (.c _ _ (.own1 _ _)) .nil,.old 0 736 _ _ _ rfl rfl (.data_eq rfl) .nil,rfl,rfl,rfl⟩
 ·show ABr ..
  refine ⟨fun h=>absurd h (by decide),fun _=>?_⟩
  show ACall ..
  refine za (zhk 4 (by decide)) rfl ?_
  show ABr ..
  refine ⟨fun h=>absurd h (by decide),fun _=>?_⟩
  show AOb ..
  refine ⟨by decide,?_⟩
  show ∃ n,_
  refine ⟨4,?_⟩
  show ALoop ..
  refine .next ?_
  show ABr ..
  refine ⟨fun _=>?_,fun h=>absurd h (by decide)⟩
  show AOb ..
  refine ⟨by decide,?_⟩
  show AOb ..
  refine ⟨by decide,?_⟩
  show ALoop ..
  refine .next ?_
  show ABr ..
  refine ⟨fun _=>?_,fun h=>absurd h (by decide)⟩
  show AOb ..
  refine ⟨by decide,?_⟩
  show AOb ..
  refine ⟨by decide,?_⟩
  show ALoop ..
  refine .next ?_
  show ABr ..
  refine ⟨fun h=>absurd h (by decide),fun _=>?_⟩
  show ARet ..
  exact ⟨[(736,0)],[(0,.data .page (List.replicate 4 ⟨3,0⟩))],[.c (.own 0)],.cons _ _ _ _ (.c _ _ (.own1 _ _)) .nil,.old 0 736 _ _ _ rfl rfl (.data_eq rfl) .nil,rfl,rfl,rfl⟩
theorem FrC.frz_e {D:List Nat} {h:zg} {x:CV} {k:EK} {l m:List k.T} (h1:zbo (fun b=>D.contains b) h 8 x=some (.sl k l)) (e:l=m):FrC D h x (.d (.sl k m)):=by subst e;exact .frz _ _ h1
theorem zoL (l:List Page) (i n:Nat) (hm:zas l=true) (h1:1≤n) (h4:n≤4) (hf:zak l n i=true):Spec X 257 [] [.c (.d (.sl .page l)),.int (i:Int),.int (n:Int)] (Ret [] (.tup [.c (.d (.sl .page (zbm l i (⟨2,n⟩ :: List.replicate (n - 1) ⟨3,0⟩)))),.int 0])):=by
 refine Spec.fz (zd zjt Tryz.f257 (by kernel_rfl) (by kernel_rfl) (by kernel_rfl) fun hb hH=>⟨rfl,?_⟩)
 obtain ⟨k1,k2⟩:=zax.1 hf
 show ACall ..
 refine za ((zcG l).uz) rfl ?_
 rw [hm]
 show AIf ..
 refine ⟨fun _=>?_,fun h=>absurd ⟨(by rfl),trivial⟩ h⟩
 show ACall ..
 refine za ((zej (n:Int) 1 4).uz) rfl ?_
 rw [decide_eq_true (show (1:Int)≤(n:Int)∧(n:Int)≤4 by omega)]
 show ABr ..
 refine ⟨fun h=>absurd h (by decide),fun _=>?_⟩
 show ACall ..
 refine za ((zkQ l i n hm hf).uz) rfl ?_
 show ABr ..
 refine ⟨fun h=>absurd h (by decide),fun _=>?_⟩
 show ACall ..
 refine .mk _ (zpc n h1 h4).uz fun H r ⟨eH,er⟩ _ _=>⟨.inl rfl,?_⟩
 subst eH er
 show AOb ((0:Int)≤0∧(0:Int) < ((List.replicate n (⟨3,0⟩:Page)).length:Int)) _
 refine ⟨by rw [List.length_replicate];omega,?_⟩
 show AOb (0 < (List.replicate n (⟨3,0⟩:Page)).length) _
 refine ⟨by rw [List.length_replicate];omega,?_⟩
 have hp:=zf6 l (⟨2,n⟩ :: List.replicate (n - 1) ⟨3,0⟩) (i:Int) hm (by omega) (by omega)
 rw [show (i:Int).toNat=i from rfl] at hp
 have es:(List.replicate n (⟨3,0⟩:Page)).set (Int.toNat 0) ⟨2,n⟩=⟨2,n⟩ :: List.replicate (n - 1) ⟨3,0⟩:=by
  obtain ⟨m,rfl⟩:∃ m,n=m+1:=⟨n - 1,by omega⟩
  rfl
 show ACall ..
 refine .frz [672] [] [.c (.d (.sl .page l)),.int (i:Int),.c (.d (.sl .page (⟨2,n⟩ :: List.replicate (n - 1) ⟨3,0⟩)))] _ rfl .nil (.cons _ _ _ _ (.c _ _ (.same _)) (.cons _ _ _ _ (.c _ _ (.same _)) (.cons _ _ _ _ (.c _ _ (.frz_e (k:=.page) rfl es)) .nil))) rfl hp.uz ?_
 rintro H r ⟨rfl,rfl⟩ _ _
 show ARet ..
 exact zi rfl ⟨rfl,rfl⟩
theorem zul (w:List Int) (i:Nat) (hw:zbg w=true) (hi:16 * (i+1)≤w.length):Spec X 258 [] [.c (.d (.sl .int w)),.int (i:Int)] (Ret [] (.tup [.int (16 * ((i:Int)+1)),.int 0])):=by
 refine zd X_ok Tryz.f258 (by kernel_rfl) (by kernel_rfl) (by kernel_rfl) fun hb hH=>⟨rfl,?_⟩
 have h1:=(of_decide_eq_true hw:_)
 show ACall ..
 refine za (zeh w) rfl ?_
 rw [hw]
 show ABr ..
 refine ⟨fun h=>absurd h (by decide),fun _=>?_⟩
 show ABr (decide ((i:Int) < 0)) _ _
 rw [decide_eq_false (show ¬ (i:Int) < 0 by omega)]
 show ABr ..
 refine ⟨fun h=>absurd h (by decide),fun _=>?_⟩
 show AOb ..
 refine ⟨by decide,?_⟩
 show ABr (decide ((i:Int)≥tdv (w.length:Int) 16)) _ _
 rw [zmJ (by omega) (by decide) (by omega),decide_eq_false (show ¬ (i:Int)≥(w.length:Int) / 16 by omega)]
 show ABr ..
 refine ⟨fun h=>absurd h (by decide),fun _=>?_⟩
 have e:IntKind.i64.wrap (IntKind.i64.wrap ((i:Int)+1) * 16)=16 * ((i:Int)+1):=by
  rw [zB (n:=(i:Int)+1) (by omega) (by omega),zB (by omega) (by omega)];omega
 show ARet ..
 exact ⟨[],[],[.int (16 * ((i:Int)+1)),.int 0],.cons _ _ _ _ (.int_eq e) (.cons _ _ _ _ .same .nil),.nil,rfl,rfl,rfl⟩
end Go.Abs
namespace Go.Abs
set_option maxRecDepth 8000
def startsOn (l:List Page) (i:Nat):List Int:=(zG (l.getD i default) (16 * ((i:Int)+1))).map (·.1)
def zct (w:List Int):List Int→List Int
 | []=>w
 | a :: r=>zct (w.set (a - 16).toNat 0) r
theorem zkC (a:Int):∀ (l w:List Int),zct w (l ++ [a])=(zct w l).set (a - 16).toNat 0
 | [],w=>rfl
 | x :: r,w=>zkC a r _
theorem zdv:∀ (l w:List Int),(zct w l).length=w.length
 | [],w=>rfl
 | x :: r,w=>by unfold zct;rw [zdv r,List.length_set]
def zL (g:Hp) (k:Int):Hp:=match zaT g.pages 1 with
 | some i=>⟨zct g.w (startsOn (zbm g.pages i [⟨1,k⟩]) i).reverse,zbm g.pages i [⟨1,k⟩],g.free.set_ k (g.free.at_ k ++ (startsOn (zbm g.pages i [⟨1,k⟩]) i).reverse),g.cards⟩
 | none=>g
def zdX (g:Hp):Int:=match zaT g.pages 1 with
 | some _=>0
 | none=>4
theorem zaX {g:Hp} {i:Nat} (h:zaT g.pages 1=some i) (k:Int):zL g k=⟨zct g.w (startsOn (zbm g.pages i [⟨1,k⟩]) i).reverse,zbm g.pages i [⟨1,k⟩],g.free.set_ k (g.free.at_ k ++ (startsOn (zbm g.pages i [⟨1,k⟩]) i).reverse),g.cards⟩∧zdX g=0:=by
 unfold zL zdX;rw [h];exact ⟨rfl,rfl⟩
theorem zaV {g:Hp} (h:zaT g.pages 1=none) (k:Int):zL g k=g∧zdX g=4:=by
 unfold zL zdX;rw [h];exact ⟨rfl,rfl⟩
theorem zsu (l:List Page) (i:Nat) (q:Page) (hi:i < l.length):(zbm l i [q]).length=l.length:=by
 rw [zhh (by show i+1≤l.length;omega)]
 simp;omega
theorem zku {l:List Page} {i n:Nat} {X:List Page} (hX:X.length=n) (h:zak l n i=true):zbm l i X=l.take i ++ X ++ l.drop (i+n):=by
 obtain ⟨h1,_⟩:=zax.1 h
 rw [zhh (by omega),hX]
theorem zdO {l:List Page} {i n:Nat} {X:List Page} (hX:X.length=n) (h:zak l n i=true):(zbm l i X).length=l.length:=by
 obtain ⟨h1,_⟩:=zax.1 h
 rw [zku hX h,List.length_append,List.length_append,List.length_take,List.length_drop,hX]
 omega
theorem zhj {B : List Page} : ∀ (R : List Page), (∀ p ∈ R, p.kind = 0) → ∀ r : Int, 0 ≤ r → R ≠ [] → pgo r (R ++ B) = true → r = 0 ∧ pgo 0 B = true
  | [], _, _, _, hne, _ => absurd rfl hne
  | [p], hz, r, h0, _, h => by
    have hk := hz p (List.mem_singleton_self p)
    simp only [List.cons_append, List.nil_append, pgo, hk] at h
    simp at h
    have : r = 0 := by omega
    subst this
    exact ⟨rfl, h.2⟩
  | p :: q :: R, hz, r, h0, _, h => by
    have hk := hz p (List.mem_cons_self ..)
    simp only [List.cons_append, pgo, hk] at h
    simp at h
    have : r = 0 := by omega
    subst this
    obtain ⟨_, h2⟩ := zhj (B := B) (q :: R) (fun x hx => hz x (List.mem_cons_of_mem _ hx)) 0 (Int.le_refl 0) (by simp) (by simpa [pgo] using h.2)
    exact ⟨rfl, h2⟩
theorem zkD {R X B : List Page} (hR : R ≠ []) (hz : ∀ p ∈ R, p.kind = 0) (hX : pgo 0 B = true → pgo 0 (X ++ B) = true) : ∀ (A : List Page) (r : Int), 0 ≤ r → (∀ p ∈ A, zbB p) → pgo r (A ++ (R ++ B)) = true → pgo r (A ++ (X ++ B)) = true
  | [], r, h0, _, h => by
    obtain ⟨e, hB⟩ := zhj R hz r h0 hR h
    subst e
    exact hX hB
  | p :: A, r, h0, ha, h => by
    simp only [List.cons_append, pgo] at h ⊢
    have hp := ha p (List.mem_cons_self ..)
    have ha' := fun x hx => ha x (List.mem_cons_of_mem _ hx)
    cases h3 : decide (p.kind = 3) with
    | true =>
      rw [h3] at h
      simp only [cond_true, Bool.and_eq_true] at h ⊢
      refine ⟨h.1, zkD hR hz hX A (r - 1) ?_ ha' h.2⟩
      have := h.1.1
      simp at this
      omega
    | false =>
      rw [h3] at h
      simp only [cond_false, Bool.and_eq_true] at h ⊢
      refine ⟨h.1, zkD hR hz hX A _ ?_ ha' h.2⟩
      split
      · have := (hp.2 (by assumption)).1; omega
      · exact h0
theorem zuY {l:List Page} {i n:Nat} (h:zak l n i=true):l=l.take i ++ ((l.drop i).take n ++ l.drop (i+n))∧∀ p∈(l.drop i).take n,p.kind=0:=by
 refine ⟨?_,fun p hp=>?_⟩
 ·rw [← List.drop_drop,List.take_append_drop,List.take_append_drop]
 ·unfold zak at h
  rw [Bool.and_eq_true,List.all_eq_true] at h
  exact of_decide_eq_true (h.2 p hp)
theorem zse {l:List Page} {i n:Nat} {X:List Page} (hm:zas l=true) (h:zak l n i=true) (hn:1≤n) (hXn:X.length=n) (hX:∀ B,pgo 0 B=true→pgo 0 (X ++ B)=true):zas (zbm l i X)=true:=by
 obtain ⟨k1,k2⟩:=zax.1 h
 have hok:=(zah hm).1
 unfold zas at hm ⊢
 rw [Bool.and_eq_true,decide_eq_true_eq] at hm
 rw [zdO hXn h,Bool.and_eq_true,decide_eq_true_eq]
 refine ⟨?_,hm.2⟩
 rw [zku hXn h,List.append_assoc]
 obtain ⟨e,hz⟩:=zuY h
 refine zkD (R:=(l.drop i).take n) (fun e=>?_) hz (hX _) (l.take i) 0 (Int.le_refl 0) (fun p hp=>?_) (by rw [← e];exact hm.1)
 ·have:=congrArg List.length e
  rw [List.length_take,List.length_drop] at this
  simp at this;omega
 ·exact ztZ hm.1 p (List.mem_of_mem_take hp)
theorem ziv {l:List Page} {i:Nat} {k:Int} (hm:zas l=true) (h:zak l 1 i=true) (hk:0≤k∧k≤2):zas (zbm l i [⟨1,k⟩])=true:=
 zse hm h (Nat.le_refl _) rfl fun B hB=>by simp [pgo,zag,hk,hB]
theorem zlN {B : List Page} (hB : pgo 0 B = true) : ∀ n : Nat, pgo (n : Int) (List.replicate n ⟨3, 0⟩ ++ B) = true
  | 0 => hB
  | n + 1 => by
    rw [List.replicate_succ, List.cons_append, zkx (by omega), show ((n + 1 : Nat) : Int) - 1 = (n : Int) by omega, zlN hB n]
    rfl
theorem zlR {l:List Page} {i n:Nat} (hm:zas l=true) (h:zak l n i=true) (hn:1≤n) (h4:n≤4):zas (zbm l i (⟨2,n⟩ :: List.replicate (n - 1) ⟨3,0⟩))=true:=
 zse hm h hn (by simp;omega) fun B hB=>by
  have:=zlN hB (n - 1)
  rw [show ((n - 1:Nat):Int)=(n:Int) - 1 by omega] at this
  simp [pgo,zag,this]
  omega
theorem ziJ {l:List Page} {i:Nat} (hp:zbB (l.getD i default)) {a:Int} (h:a∈startsOn l i):16 * ((i:Int)+1)≤a∧a < 16 * ((i:Int)+1)+16:=by
 unfold startsOn at h
 obtain ⟨x,hx,rfl⟩:=List.mem_map.1 h
 rcases zfI hp hx with ⟨hk,_,k,k1,k2⟩ | ⟨_,k⟩
 ·have hc:=hp.1 hk
  rcases zkz hc with ⟨w,v⟩ | ⟨w,v⟩ | ⟨w,v⟩ <;> rw [w] at k2 <;> rw [v] at k1 <;> omega
 ·rw [k];show _≤16 * ((i:Int)+1)∧16 * ((i:Int)+1) < _;omega
theorem zeI (l:List Page) (i:Nat):(startsOn l i).length≤8:=by unfold startsOn;rw [List.length_map];exact zfF _ _
theorem zjv {l:List Page} {i:Nat} {k:Int} (hk:0≤k∧k≤2) (hi:i < l.length):2≤(startsOn (zbm l i [⟨1,k⟩]) i).length:=by
 have e:(zbm l i [⟨1,k⟩]).getD i default=⟨1,k⟩:=by
  rw [zhh (by show i+1≤l.length;omega),List.getD_eq_getElem?_getD,List.append_assoc,List.getElem?_append_right (by rw [List.length_take];omega),List.length_take,show i - min i l.length=0 by omega]
  rfl
 unfold startsOn
 rw [e,List.length_map]
 unfold zG
 rw [if_neg (show ¬ (1:Int)=2 by decide),if_pos rfl,List.length_map,List.length_range]
 rcases zkz hk with ⟨_,v⟩ | ⟨_,v⟩ | ⟨_,v⟩ <;> rw [v] <;> decide
def zQ (g:Hp) (c:Lists) (k:Int):Int:=if c.at_ k=[]∧g.free.at_ k=[] then zdX g else 0
def refG (g:Hp) (c:Lists) (k:Int):Hp:=if c.at_ k=[]∧g.free.at_ k=[] then zL g k else g
def zi7 (g:Hp) (c:Lists) (k:Int):List Int:=if c.at_ k=[] then ((refG g c k).free.at_ k).take (leftOf ((refG g c k).free.at_ k).length 2) else g.free.at_ k
def zcd (g:Hp) (c:Lists) (k:Int):List Int:=if c.at_ k=[] then (((refG g c k).free.at_ k).drop (leftOf ((refG g c k).free.at_ k).length 2)).reverse else c.at_ k
def zX (g:Hp) (c:Lists) (k:Int):Hp:=if zQ g c k=0 then (if c.at_ k=[] then { refG g c k with free:=(refG g c k).free.set_ k (zi7 g c k) } else g) else g
def smallC (g:Hp) (c:Lists) (k:Int):Lists:=if zQ g c k=0 then c.set_ k ((zcd g c k).take ((zcd g c k).length - 1)) else c
def zaj (g:Hp) (c:Lists) (k:Int):Int:=if zQ g c k=0 then at0 (zcd g c k) ((zcd g c k).length - 1) else 0
theorem za0 {l:Lists} {c:Int} (h:0≤c∧c≤2) (x:List Int):(l.set_ c x).at_ c=x:=by rw [zfA h h,if_pos rfl]
theorem zfT {l:Lists} {c:Int} (x y:List Int):(l.set_ c x).set_ c y=l.set_ c y:=by
 unfold Lists.set_
 split
 ·rfl
 ·split <;> rfl
theorem zdZ (g:Hp):zdX g=0∨zdX g=4:=by
 unfold zdX;split
 ·exact .inl rfl
 ·exact .inr rfl
theorem zuR {g : Hp} {k : Int} (hk : 0 ≤ k ∧ k ≤ 2) (h0 : g.free.at_ k = []) (he : zdX g = 0) : 2 ≤ ((zL g k).free.at_ k).length ∧ ((zL g k).free.at_ k).length ≤ 8 := by
  cases hf : zaT g.pages 1 with
  | none => rw [(zaV hf k).2] at he; cases he
  | some i =>
    obtain ⟨_, hil⟩ := zbF hf
    rw [(zaX hf k).1]
    show 2 ≤ ((g.free.set_ k _).at_ k).length ∧ ((g.free.set_ k _).at_ k).length ≤ 8
    rw [za0 hk, h0, List.nil_append, List.length_reverse]
    exact ⟨zjv hk hil, zeI _ _⟩
theorem zjY {g:Hp} {c:Lists} {k:Int} (h:zQ g c k≠0):zX g c k=g∧smallC g c k=c∧zaj g c k=0∧zQ g c k=4∧c.at_ k=[]∧g.free.at_ k=[]∧zdX g=4:=by
 unfold zX smallC zaj
 rw [if_neg h,if_neg h,if_neg h]
 unfold zQ at h ⊢
 by_cases h1:c.at_ k=[]∧g.free.at_ k=[]
 ·rw [if_pos h1] at h ⊢
  have:=(zdZ g).resolve_left h
  exact ⟨rfl,rfl,rfl,this,h1.1,h1.2,this⟩
 ·rw [if_neg h1] at h;exact absurd rfl h
theorem zcn {g:Hp} {c:Lists} {k:Int} (hk:0≤k∧k≤2) (he:zQ g c k=0):0 < (zcd g c k).length:=by
 unfold zcd
 by_cases h1:c.at_ k=[]
 ·rw [if_pos h1,List.length_reverse,List.length_drop]
  unfold refG leftOf
  by_cases h2:g.free.at_ k=[]
  ·rw [if_pos ⟨h1,h2⟩]
   unfold zQ at he
   rw [if_pos ⟨h1,h2⟩] at he
   have:=zuR hk h2 he
   show 0 < _ - (_ - 2)
   omega
  ·rw [if_neg (fun q=>h2 q.2)]
   have:0 < (g.free.at_ k).length:=List.length_pos_iff.2 h2
   show 0 < _ - (_ - 2)
   omega
 ·rw [if_neg h1];exact List.length_pos_iff.2 h1
def zdG (g:Hp) (n:Int):Option Nat:=zaT g.pages (za1 n).toNat
def zaF (g:Hp) (n:Int):Hp:=match zdG g n with
 | some i=>{ g with pages:=zbm g.pages i (⟨2,za1 n⟩ :: List.replicate ((za1 n).toNat - 1) ⟨3,0⟩) }
 | none=>g
def zaJ (g:Hp) (n:Int):Int:=match zdG g n with
 | some i=>16 * ((i:Int)+1)
 | none=>0
def zb3 (g:Hp) (n:Int):Int:=match zdG g n with
 | some _=>0
 | none=>4
theorem zgH {g:Hp} {n:Int} {i:Nat} (h:zdG g n=some i):zaF g n={ g with pages:=zbm g.pages i (⟨2,za1 n⟩ :: List.replicate ((za1 n).toNat - 1) ⟨3,0⟩) }∧zaJ g n=16 * ((i:Int)+1)∧zb3 g n=0:=by
 unfold zaF zaJ zb3;rw [h];exact ⟨rfl,rfl,rfl⟩
theorem zgT {g:Hp} {n:Int} (h:zdG g n=none):zaF g n=g∧zaJ g n=0∧zb3 g n=4:=by
 unfold zaF zaJ zb3;rw [h];exact ⟨rfl,rfl,rfl⟩
theorem ziA {l:List Page} (hm:zas l=true) {x:Int × Int}:x∈cellsAll l↔∃ j,j < l.length∧x∈zG (l.getD j default) (16 * ((j:Int)+1)):=by
 constructor
 ·intro h
  obtain ⟨_,j,hj⟩:=zaq h
  exact ⟨j,hj.lt,hj.mem⟩
 ·rintro ⟨j,hj,hx⟩
  unfold cellsAll
  rw [if_pos hm]
  unfold zZ
  rw [List.drop_zero,List.mem_flatMap]
  exact ⟨j,List.mem_range.2 hj,hx⟩
theorem zhH {l X:List Page} {i n:Nat} (hX:X.length=n) (h:zak l n i=true) (j:Nat):(zbm l i X).getD j default=if i≤j∧j < i+n then X.getD (j - i) default else l.getD j default:=by
 obtain ⟨h1,_⟩:=zax.1 h
 rw [zku hX h,List.getD_eq_getElem?_getD,List.append_assoc]
 by_cases k1:j < i
 ·rw [if_neg (by omega),List.getElem?_append_left (by rw [List.length_take];omega),List.getElem?_take,if_pos k1,List.getD_eq_getElem?_getD]
 ·rw [List.getElem?_append_right (by rw [List.length_take];omega),List.length_take,show j - min i l.length=j - i by omega]
  by_cases k2:j < i+n
  ·rw [if_pos ⟨by omega,k2⟩,List.getElem?_append_left (by omega),List.getD_eq_getElem?_getD]
  ·rw [if_neg (by omega),List.getElem?_append_right (by omega),List.getElem?_drop,List.getD_eq_getElem?_getD,hX,show i+n+(j - i - n)=j by omega]
theorem zhZ {l X:List Page} {i n:Nat} (hm:zas l=true) (hX:X.length=n) (h:zak l n i=true) (hm' : zas (zbm l i X)=true) {x:Int × Int} :
  x∈cellsAll (zbm l i X)↔x∈cellsAll l∨∃ j,i≤j∧j < i+n∧x∈zG (X.getD (j - i) default) (16 * ((j:Int)+1)):=by
 obtain ⟨h1,h2⟩:=zax.1 h
 rw [ziA hm',ziA hm,zdO hX h]
 constructor
 ·rintro ⟨j,hj,hx⟩
  rw [zhH hX h] at hx
  by_cases k:i≤j∧j < i+n
  ·rw [if_pos k] at hx;exact .inr ⟨j,k.1,k.2,hx⟩
  ·rw [if_neg k] at hx;exact .inl ⟨j,hj,hx⟩
 ·rintro (⟨j,hj,hx⟩ | ⟨j,k1,k2,hx⟩)
  ·refine ⟨j,hj,?_⟩
   rw [zhH hX h,if_neg]
   ·exact hx
   ·rintro ⟨k1,k2⟩
    have:=h2 (j - i) (by omega)
    rw [show i+(j - i)=j by omega] at this
    unfold zG at hx
    rw [if_neg (by omega),if_neg (by omega)] at hx
    cases hx
  ·refine ⟨j,by omega,?_⟩
   rw [zhH hX h,if_pos ⟨k1,k2⟩]
   exact hx
theorem zi6 {l:List Page} (hm:zas l=true) {i:Nat} (hi:i < l.length) {a:Int} (h:a∈startsOn l i):zf l a≠0:=by
 unfold startsOn at h
 obtain ⟨x,hx,rfl⟩:=List.mem_map.1 h
 have hc:=zcv hi ((zah hm).1 i hi) hx
 rw [zbA ((ziA hm).2 ⟨i,hi,hx⟩)]
 have:=hc.pos
 omega
theorem zuM {l:List Int} (h:0 < l.length):at0 l (l.length - 1)∈l:=by rw [zcO (by omega)];exact List.getElem_mem _
theorem zl4 {g:Hp} {cs:List Lists} (hm:zz g cs=true) {l:Lists} (hl:l∈g.free :: cs) {k:Int} (hk:0≤k∧k≤2) {a:Int} (ha:a∈l.at_ k):zf g.pages a≠0∧zR g a=⟨1,k⟩∧zh g a=0:=by
 have:=(zF.1 ((zai hm).2.1 l hl) k hk.1 hk.2 a ha)
 obtain ⟨h1,h2,h3⟩:=of_decide_eq_true this
 exact ⟨by omega,h2,h3⟩
theorem zpz {g:Hp} {c:Lists} {k:Int} (he:zQ g c k=0):(zX g c k).pages=(refG g c k).pages∧(zX g c k).w=(refG g c k).w:=by
 unfold zX
 rw [if_pos he]
 split
 ·exact ⟨rfl,rfl⟩
 ·rename_i h
  unfold refG
  rw [if_neg fun q=>h q.1]
  exact ⟨rfl,rfl⟩
theorem zru {g : Hp} {c : Lists} {cs : List Lists} {k : Int} (hm : zz g (c :: cs) = true) (hk : 0 ≤ k ∧ k ≤ 2) (he : zQ g c k = 0) : zf (zX g c k).pages (zaj g c k) ≠ 0 := by
  have hgp := zcn hk he
  have hmem := zuM hgp
  rw [(zpz he).1]
  unfold zaj
  rw [if_pos he]
  generalize at0 (zcd g c k) ((zcd g c k).length - 1) = a at *
  unfold zcd at hmem
  by_cases h1 : c.at_ k = []
  · rw [if_pos h1, List.mem_reverse] at hmem
    have hmem := List.mem_of_mem_drop hmem
    unfold refG at hmem ⊢
    by_cases h2 : g.free.at_ k = []
    · unfold zQ at he
      rw [if_pos ⟨h1, h2⟩] at he hmem ⊢
      obtain ⟨_, hmp, _⟩ := zr (zM hm)
      cases hf : zaT g.pages 1 with
      | none => rw [(zaV hf k).2] at he; cases he
      | some i =>
        obtain ⟨hfr, hil⟩ := zbF hf
        rw [(zaX hf k).1] at hmem ⊢
        have hmem : a ∈ (g.free.set_ k (g.free.at_ k ++ (startsOn (zbm g.pages i [⟨1, k⟩]) i).reverse)).at_ k := hmem
        rw [za0 hk, h2, List.nil_append, List.mem_reverse] at hmem
        exact zi6 (ziv hmp hfr hk) (by rw [zdO rfl hfr]; exact hil) hmem
    · rw [if_neg fun q => h2 q.2] at hmem ⊢
      exact (zl4 hm (List.mem_cons_self ..) hk hmem).1
  · rw [if_neg h1] at hmem
    unfold refG
    rw [if_neg fun q => h1 q.1]
    exact (zl4 hm (List.mem_cons_of_mem _ (List.mem_cons_self ..)) hk hmem).1
theorem zp4 {g:Hp} {c:Lists} {k:Int}:(zX g c k).w.length=g.w.length:=by
 unfold zX
 split
 ·split
  ·show (refG g c k).w.length=_
   unfold refG
   split
   ·cases hf:zaT g.pages 1 with
    | none=>rw [(zaV hf k).1]
    | some i=>rw [(zaX hf k).1];exact zdv _ _
   ·rfl
  ·rfl
 ·rfl
theorem zqk {g:Hp} {c:Lists} {k:Int}:(zX g c k).pages.length=g.pages.length:=by
 unfold zX
 split
 ·split
  ·show (refG g c k).pages.length=_
   unfold refG
   split
   ·cases hf:zaT g.pages 1 with
    | none=>rw [(zaV hf k).1]
    | some i=>rw [(zaX hf k).1];exact zdO rfl (zbF hf).1
   ·rfl
  ·rfl
 ·rfl
theorem zrs {g : Hp} {n : Int} (hmp : zas g.pages = true) (hr : 1 ≤ za1 n ∧ za1 n ≤ 4) (he : zb3 g n = 0) : zf (zaF g n).pages (zaJ g n) ≠ 0 ∧ (zaF g n).pages.length = g.pages.length := by
  obtain ⟨m, em⟩ : ∃ m : Nat, za1 n = (m : Int) := ⟨(za1 n).toNat, by omega⟩
  cases hf : zdG g n with
  | none => rw [(zgT hf).2.2] at he; cases he
  | some i =>
    obtain ⟨e1, e2, _⟩ := zgH hf
    unfold zdG at hf
    rw [em] at hf e1
    have hf : zaT g.pages m = some i := hf
    obtain ⟨hfr, hil⟩ := zbF hf
    have hXl : ((⟨2, (m : Int)⟩ : Page) :: List.replicate (m - 1) ⟨3, 0⟩).length = m := by simp; omega
    rw [e1, e2]
    refine ⟨?_, zdO hXl hfr⟩
    have hm' := zlR hmp hfr (by omega) (by omega)
    have : (16 * ((i : Int) + 1), (m : Int) * 16) ∈ cellsAll (zbm g.pages i (⟨2, (m : Int)⟩ :: List.replicate (m - 1) ⟨3, 0⟩)) := by
      rw [zhZ hmp hXl hfr hm']
      refine .inr ⟨i, Nat.le_refl _, by omega, ?_⟩
      rw [Nat.sub_self]
      show _ ∈ zG ⟨2, (m : Int)⟩ _
      unfold zG
      rw [if_pos rfl]
      exact List.mem_singleton_self _
    rw [show Int.toNat (m : Int) = m from rfl, zbA this]
    show (m : Int) * 16 ≠ 0
    omega
def zaD (g:Hp) (c:Lists) (x:Hd):Int:=
 if zch x≠0∨x.used=false∨zz g [c]=false then 1 else if zaE x.n≠0 then zaE x.n else if zH x.n=3 then zb3 g x.n else zQ g c (zH x.n)
def zkT (g:Hp) (c:Lists) (x:Hd):Hp:=if zH x.n=3 then zaF g x.n else zX g c (zH x.n)
def zky (g:Hp) (c:Lists) (x:Hd):Int:=if zH x.n=3 then zaJ g x.n else zaj g c (zH x.n)
def ztN (g:Hp) (c:Lists) (x:Hd):Lists:=if zH x.n=3 then c else smallC g c (zH x.n)
def zbq (g:Hp) (a:Int) (v:Int):Hp:={ g with w:=(zK g.w (a - 16).toNat (List.replicate (zf g.pages a).toNat (0:Int))).set (a - 16).toNat v }
def zfk (g:Hp) (c:Lists) (x:Hd):Hp:=if zaD g c x=0 then zbq (zkT g c x) (zky g c x) x.word else Hp.zero
def takeC (g:Hp) (c:Lists) (x:Hd):Lists:=if zaD g c x=0 then ztN g c x else Lists.zero
def zhK (g:Hp) (c:Lists) (x:Hd):Int:=if zaD g c x=0 then zky g c x else 0
theorem zbn {g:Hp} {c:Lists} {x:Hd} (h:zaD g c x≠0):zfk g c x=Hp.zero∧takeC g c x=Lists.zero∧zhK g c x=0:=by
 unfold zfk takeC zhK;rw [if_neg h,if_neg h,if_neg h];exact ⟨rfl,rfl,rfl⟩
theorem zkM {g:Hp} {c:Lists} {x:Hd} (h:zaD g c x=0):zfk g c x=zbq (zkT g c x) (zky g c x) x.word∧takeC g c x=ztN g c x∧zhK g c x=zky g c x:=by
 unfold zfk takeC zhK;rw [if_pos h,if_pos h,if_pos h];exact ⟨rfl,rfl,rfl⟩
theorem zmk {n:Int} (h:zaE n=0):1≤n∧n≤63∧0≤zH n∧zH n≤3∧(zH n=3→1≤za1 n∧za1 n≤4∧zhg n=0):=by
 have hn:1≤n∧n≤63:=by
  unfold zaE at h
  by_cases h1:n < 1
  ·rw [if_pos h1] at h;cases h
  ·by_cases h2:n > 63
   ·rw [if_neg h1,if_pos h2] at h;cases h
   ·omega
 refine ⟨hn.1,hn.2,?_,?_,fun h3=>?_⟩
 ·unfold zH;split;exact Int.le_refl _;split;exact Int.le_refl _;split;omega;split <;> omega
 ·unfold zH;split;omega;split;omega;split;omega;split <;> omega
 ·unfold za1 zhg
  rw [h,h3]
  simp
  omega
theorem zkL {g:Hp} {c:Lists} {x:Hd} (h:zaD g c x=0):zf (zkT g c x).pages (zky g c x)≠0∧(zkT g c x).pages.length=g.pages.length∧(zkT g c x).w.length=g.w.length∧zz g [c]=true∧zch x=0∧x.used=true∧zaE x.n=0:=by
 unfold zaD at h
 split at h
 ·cases h
 ·rename_i h1
  have hp:zch x=0:=Classical.byContradiction fun k=>h1 (.inl k)
  have hu:x.used=true:=by
   cases hu:x.used with
   | true=>rfl
   | false=>exact absurd (.inr (.inl hu)) h1
  have hm:zz g [c]=true:=by
   cases hm:zz g [c] with
   | true=>rfl
   | false=>exact absurd (.inr (.inr hm)) h1
  split at h
  ·contradiction
  ·rename_i h2
   have hc:zaE x.n=0:=by simpa using h2
   obtain ⟨c1,c2,c3,c4,c5⟩:=zmk hc
   unfold zkT zky
   by_cases h3:zH x.n=3
   ·rw [if_pos h3] at h
    rw [if_pos h3,if_pos h3]
    obtain ⟨r1,r2⟩:=zrs (g:=g) (n:=x.n) (zr (zM hm)).2.1 ⟨(c5 h3).1,(c5 h3).2.1⟩ h
    refine ⟨r1,r2,?_,hm,hp,hu,hc⟩
    unfold zaF
    split <;> rfl
   ·rw [if_neg h3] at h
    rw [if_neg h3,if_neg h3]
    exact ⟨zru hm ⟨c3,by omega⟩ h,zqk,zp4,hm,hp,hu,hc⟩
end Go.Abs
