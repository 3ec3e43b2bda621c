/- Walks and plain laws: WScanK, WCardsAll, WScanE, WTraceM, WPart, WFreeN, WReap, WSweep, WSweepK, WRef07, WRefOwn, WHeapSets, WRef11, WSweepA, WCardsKeep, WCardsTwice, WSweepC, WHeapTells, WSweepE, WRef12. -/
import Derived.Test.YtejnngjfjaeiiaaGreatDoorPc
import Derived.Test.YtejnngjfjaeiiaaGreatDoorAbsBase1
import Derived.Test.YtejnngjfjaeiiaaGreatDoorPa
set_option linter.all false
set_option linter.unusedVariables false
set_option linter.unusedSimpArgs false
namespace Go.Abs
def youngH (g:Hp) (a:Int):Bool:=decide (headE g a=0) && !(headH g a).old
def metS (g:Hp) (c:Col) (v:Int):Hp × Col:=if youngH g v=true then (shadeG g c v,{ shadeC g c v with met:=true }) else (g,c)
def scanF (g:Hp) (c:Col):Hp × Col:=
 if headE g c.at_≠0∨c.field_ < 0∨(headH g c.at_).n≤c.field_ then (g,{ c with at_:=0,field_:=0 })
 else if c.field_+1=(headH g c.at_).n then ((metS g c (wordOf g (c.at_+1+c.field_))).1,{ (metS g c (wordOf g (c.at_+1+c.field_))).2 with at_:=0,field_:=0 })
 else ((metS g c (wordOf g (c.at_+1+c.field_))).1,{ (metS g c (wordOf g (c.at_+1+c.field_))).2 with field_:=c.field_+1 })
def scanB (g:Hp) (c:Col):Hp × Col:=
 if g.cards.getD c.card.toNat false=true then (cset g c.card false,{ c with seek:=1,met:=false,at_:=0,field_:=0 }) else (g,{ c with card:=c.card+1 })
def scanE (g:Hp) (c:Col):Hp × Col:=
 ((if c.met=true then cset g c.card true else g),{ c with card:=c.card+1,seek:=0,met:=false })
def scanS (g : Hp) (c : Col) : Hp × Col :=
  if mayH g [] = true ∧ c.phase = 4 ∧ 0 ≤ c.card then
    (if (g.cards.length : Int) ≤ c.card then (g, { c with phase := 5, seek := 0, card := 0, met := false, at_ := 0, field_ := 0 })
     else if c.seek = 0 then scanB g c
     else if c.at_ ≠ 0 then scanF g c
     else match nextO g c.card c.seek with
       | some a => (g, { c with at_ := a, field_ := 0, seek := a })
       | none => scanE g c)
  else (g, c)
inductive SStep (g:Hp) (c:Col):Hp→Col→Prop
 | idle (h:¬ (mayH g []=true∧c.phase=4∧0≤c.card)):SStep g c g c
 | fin (hm:mayH g []=true) (hp:c.phase=4) (hc:(g.cards.length:Int)≤c.card):SStep g c g { c with phase:=5,seek:=0,card:=0,met:=false,at_:=0,field_:=0 }
 | clean (hm:mayH g []=true) (hp:c.phase=4) (h0:0≤c.card) (hc:c.card < (g.cards.length:Int)) (hs:c.seek=0) (hd:g.cards.getD c.card.toNat false=true):SStep g c (cset g c.card false) { c with seek:=1,met:=false,at_:=0,field_:=0 }
 | skip (hm:mayH g []=true) (hp:c.phase=4) (h0:0≤c.card) (hc:c.card < (g.cards.length:Int)) (hs:c.seek=0) (hd:g.cards.getD c.card.toNat false=false):SStep g c g { c with card:=c.card+1 }
 | lost (hm:mayH g []=true) (hp:c.phase=4) (h0:0≤c.card) (hc:c.card < (g.cards.length:Int)) (hs:c.seek≠0) (ha:c.at_≠0) (hf:headE g c.at_≠0∨c.field_ < 0∨(headH g c.at_).n≤c.field_):SStep g c g { c with at_:=0,field_:=0 }
 | last (hm:mayH g []=true) (hp:c.phase=4) (h0:0≤c.card) (hc:c.card < (g.cards.length:Int)) (hs:c.seek≠0) (ha:c.at_≠0) (hE:headE g c.at_=0) (hf:0≤c.field_) (hl:c.field_+1=(headH g c.at_).n) (v:Int) (hv:v=wordOf g (c.at_+1+c.field_)) :
   SStep g c (metS g c v).1 { (metS g c v).2 with at_:=0,field_:=0 }
 | more (hm:mayH g []=true) (hp:c.phase=4) (h0:0≤c.card) (hc:c.card < (g.cards.length:Int)) (hs:c.seek≠0) (ha:c.at_≠0) (hE:headE g c.at_=0) (hf:0≤c.field_) (hl:c.field_+1 < (headH g c.at_).n) (v:Int) (hv:v=wordOf g (c.at_+1+c.field_)) :
   SStep g c (metS g c v).1 { (metS g c v).2 with field_:=c.field_+1 }
 | next (hm:mayH g []=true) (hp:c.phase=4) (h0:0≤c.card) (hc:c.card < (g.cards.length:Int)) (hs:c.seek≠0) (ha:c.at_=0) (a:Int) (hn:nextO g c.card c.seek=some a):SStep g c g { c with at_:=a,field_:=0,seek:=a }
 | done (hm:mayH g []=true) (hp:c.phase=4) (h0:0≤c.card) (hc:c.card < (g.cards.length:Int)) (hs:c.seek≠0) (ha:c.at_=0) (hn:nextO g c.card c.seek=none):SStep g c (if c.met=true then cset g c.card true else g) { c with card:=c.card+1,seek:=0,met:=false }
theorem scan_step (g:Hp) (c:Col):SStep g c (scanS g c).1 (scanS g c).2:=by
 unfold scanS
 by_cases h:mayH g []=true∧c.phase=4∧0≤c.card
 ·rw [if_pos h]
  obtain ⟨hm,hp,h0⟩:=h
  by_cases hc:(g.cards.length:Int)≤c.card
  ·rw [if_pos hc];exact .fin hm hp hc
  ·rw [if_neg hc]
   have hc:c.card < (g.cards.length:Int):=by omega
   by_cases hs:c.seek=0
   ·rw [if_pos hs]
    unfold scanB
    cases hd:g.cards.getD c.card.toNat false with
    | true=>rw [if_pos rfl];exact .clean hm hp h0 hc hs hd
    | false=>rw [if_neg (by decide)];exact .skip hm hp h0 hc hs hd
   ·rw [if_neg hs]
    by_cases ha:c.at_≠0
    ·rw [if_pos ha]
     unfold scanF
     by_cases hf:headE g c.at_≠0∨c.field_ < 0∨(headH g c.at_).n≤c.field_
     ·rw [if_pos hf];exact .lost hm hp h0 hc hs ha hf
     ·rw [if_neg hf]
      have hE:headE g c.at_=0:=Classical.byContradiction fun e=>hf (.inl e)
      by_cases hl:c.field_+1=(headH g c.at_).n
      ·rw [if_pos hl];exact .last hm hp h0 hc hs ha hE (by omega) hl _ rfl
      ·rw [if_neg hl];exact .more hm hp h0 hc hs ha hE (by omega) (by omega) _ rfl
    ·rw [if_neg ha]
     have ha:c.at_=0:=by simpa using ha
     cases hn:nextO g c.card c.seek with
     | some a=>exact .next hm hp h0 hc hs ha a hn
     | none=>exact .done hm hp h0 hc hs ha hn
 ·rw [if_neg h];exact .idle h
theorem met_cases (g:Hp) (c:Col) (v:Int):(youngH g v=true∧metS g c v=(shadeG g c v,{ shadeC g c v with met:=true }))∨(youngH g v=false∧metS g c v=(g,c)):=by
 unfold metS
 cases youngH g v with
 | true=>exact .inl ⟨rfl,if_pos rfl⟩
 | false=>exact .inr ⟨rfl,if_neg (by decide)⟩
theorem met_marks (g:Hp) (c:Col) (v:Int):Marks g (metS g c v).1:=by
 rcases met_cases g c v with ⟨_,e⟩ | ⟨_,e⟩ <;> rw [e]
 ·exact shade_marks g c v
 ·exact .refl g
theorem met_rises (g:Hp) (c:Col) (v:Int):Rises c g (metS g c v).1:=by
 rcases met_cases g c v with ⟨_,e⟩ | ⟨_,e⟩ <;> rw [e]
 ·exact shade_rises g c v
 ·exact .refl c g
theorem met_word (g:Hp) (c:Col) (v:Int) (i:Nat) (h:(metS g c v).1.w.getD i default≠g.w.getD i default):atK g c (16+(i:Int))=1:=by
 rcases met_cases g c v with ⟨_,e⟩ | ⟨_,e⟩
 ·rw [e] at h
  obtain ⟨h1,h2⟩:=shadeG_word g c v i h
  rw [show 16+(i:Int)=v by omega]
  exact h2
 ·rw [e] at h;exact absurd rfl h
theorem met_col (g:Hp) (c:Col) (v:Int):(metS g c v).2.phase=c.phase∧(metS g c v).2.epoch=c.epoch∧(metS g c v).2.major=c.major∧(metS g c v).2.at_=c.at_∧(metS g c v).2.field_=c.field_∧(metS g c v).2.seek=c.seek∧(metS g c v).2.card=c.card:=by
 rcases met_cases g c v with ⟨_,e⟩ | ⟨_,e⟩ <;> rw [e]
 ·have h:=shadeC_same g c v
  exact ⟨h.phase,h.epoch,h.major,h.at_,h.field_,h.seek,h.card⟩
 ·exact ⟨rfl,rfl,rfl,rfl,rfl,rfl,rfl⟩
theorem met_work (g:Hp) (c:Col) (v:Int) (h:c.work.length≤100):(metS g c v).2.work.length≤100:=by
 rcases met_cases g c v with ⟨_,e⟩ | ⟨_,e⟩ <;> rw [e]
 ·exact shadeC_work4 g c v h
 ·exact h
structure SKeep (g k:Hp) (c d:Col):Prop where
 pages:k.pages=g.pages
 free:k.free=g.free
 wlen:k.w.length=g.w.length
 clen:k.cards.length=g.cards.length
 may:∀ cs,mayH k cs=mayH g cs
 used:usedH k=usedH g
 headE:∀ u,Abs.headE k u=Abs.headE g u
 head:∀ u,(headH k u).used=(headH g u).used∧(headH k u).old=(headH g u).old∧(headH k u).n=(headH g u).n∧(headH k u).born=(headH g u).born
 word:∀ i:Nat,k.w.getD i default≠g.w.getD i default→atK g c (16+(i:Int))=1
 card:∀ j:Nat,k.cards.getD j false≠g.cards.getD j false→(j:Int)=c.card
 rises:Rises c g k
 epoch:d.epoch=c.epoch
 major:d.major=c.major
 work:c.work.length≤100→d.work.length≤100
theorem skeep_same (g:Hp) (c d:Col) (h1:d.epoch=c.epoch) (h2:d.major=c.major) (h3:d.work=c.work):SKeep g g c d:=
 ⟨rfl,rfl,rfl,rfl,fun _=>rfl,rfl,fun _=>rfl,fun _=>⟨rfl,rfl,rfl,rfl⟩,fun _ h=>absurd rfl h,fun _ h=>absurd rfl h,.refl c g,h1,h2,fun h=>h3 ▸ h⟩
theorem atK_cset (g:Hp) (n:Int) (b:Bool) (c:Col) (u:Int):atK (cset g n b) c u=atK g c u:=by unfold atK;rw [headE_cset,headH_cset]
theorem skeep_cset (g:Hp) (c d:Col) (b:Bool) (h0:0≤c.card) (h1:d.epoch=c.epoch) (h2:d.major=c.major) (h3:d.work=c.work):SKeep g (cset g c.card b) c d:=by
 refine ⟨rfl,rfl,rfl,cset_len g c.card b,may_cset g c.card b,used_cset g c.card b,headE_cset g c.card b,fun u=>by rw [headH_cset];exact ⟨rfl,rfl,rfl,rfl⟩,fun _ h=>absurd rfl h,fun j hj=>?_,⟨fun u=>by rw [atK_cset];exact Int.le_refl _,fun u e=>by rw [atK_cset];exact e⟩,h1,h2,fun h=>h3 ▸ h⟩
 apply Classical.byContradiction
 intro hne
 apply hj
 show (g.cards.set c.card.toNat b).getD j false=_
 rw [List.getD_eq_getElem?_getD,List.getElem?_set_ne (by omega),List.getD_eq_getElem?_getD]
theorem skeep_met (g:Hp) (c d:Col) (v:Int) (h1:d.epoch=(metS g c v).2.epoch) (h2:d.major=(metS g c v).2.major) (h3:d.work=(metS g c v).2.work):SKeep g (metS g c v).1 c d:=by
 have hM:=met_marks g c v
 obtain ⟨_,c2,c3,_⟩:=met_col g c v
 exact ⟨hM.pages,hM.free,hM.len,by rw [hM.cards],hM.may,hM.used,hM.headE,hM.head,met_word g c v,fun j h=>absurd (by rw [hM.cards]) h,met_rises g c v,h1.trans c2,h2.trans c3,fun h=>by rw [h3];exact met_work g c v h⟩
theorem SStep.keep {g k:Hp} {c d:Col} (h:SStep g c k d):SKeep g k c d:=by
 cases h
 case clean h0 hc hs hd hm hp=>exact skeep_cset g c _ false (by assumption) rfl rfl rfl
 case last v hv=>exact skeep_met g c _ v rfl rfl rfl
 case more v hv=>exact skeep_met g c _ v rfl rfl rfl
 case done=>
  by_cases hm:c.met=true
  ·rw [if_pos hm];exact skeep_cset g c _ true (by assumption) rfl rfl rfl
  ·rw [if_neg hm];exact skeep_same g c _ rfl rfl rfl
 all_goals exact skeep_same g c _ rfl rfl rfl
end Go.Abs
namespace Go.Abs
open Go.Proofs Go.Proofs.YtejnngjfjaeiiaaGreatDoor
set_option maxRecDepth 8000
theorem mem_onTo {g:Hp} {c:Int} {n:Nat} {a:Int}:a∈onTo g c n↔a∈usedH g∧16+c * 8≤a∧a < 16+c * 8+(n:Int):=by
 unfold onTo
 rw [List.mem_filter]
 constructor
 ·rintro ⟨h1,h2⟩
  obtain ⟨i,hi,rfl⟩:=List.mem_map.1 h1
  rw [List.mem_range] at hi
  exact ⟨List.contains_iff_mem.1 h2,by omega,by omega⟩
 ·rintro ⟨h1,h2,h3⟩
  exact ⟨List.mem_map.2 ⟨(a - (16+c * 8)).toNat,List.mem_range.2 (by omega),by omega⟩,List.contains_iff_mem.2 h1⟩
theorem onTo_sorted (g:Hp) (c:Int) (n:Nat):(onTo g c n).Pairwise (· < ·):=by
 unfold onTo
 refine List.Pairwise.filter _ ?_
 rw [List.pairwise_map]
 exact List.Pairwise.imp (fun h=>by omega) List.pairwise_lt_range
theorem onH_sorted (g:Hp) (c:Int):(onH g c).Pairwise (· < ·):=by
 unfold onH
 cases decide (0≤c∧c < (g.cards.length:Int))
 ·exact List.Pairwise.nil
 ·exact onTo_sorted g c 8
end Go.Abs
namespace Go.Abs
theorem mem_onH {g:Hp} {n u:Int} (h0:0≤n) (hc:n < (g.cards.length:Int)):u∈onH g n↔headE g u=0∧16+n * 8≤u∧u < 16+n * 8+8:=by
 unfold onH
 rw [decide_eq_true ⟨h0,hc⟩]
 show u∈onTo g n 8↔_
 rw [mem_onTo,mem_usedH]
 rfl
theorem nextO_some {g:Hp} {n a b:Int} (h:nextO g n a=some b):b∈onH g n∧a < b∧(headH g b).old=true∧∀ u∈onH g n,a < u→(headH g u).old=true→b≤u:=by
 unfold nextO at h
 obtain ⟨h1,xs,bs,e,h2⟩:=List.find?_eq_some_iff_append.1 h
 rw [Bool.and_eq_true,decide_eq_true_eq] at h1
 have hs:=onH_sorted g n
 rw [e] at hs ⊢
 refine ⟨by simp,h1.1,h1.2,fun u hu ha ho=>?_⟩
 rcases List.mem_append.1 hu with hu | hu
 ·have:=h2 u hu
  rw [decide_eq_true ha,ho] at this
  cases this
 ·rcases List.mem_cons.1 hu with hu | hu
  ·omega
  ·have h3:=(List.pairwise_append.1 hs).2.1
   rw [List.pairwise_cons] at h3
   exact Int.le_of_lt (h3.1 u hu)
theorem nextO_none {g:Hp} {n a:Int} (h:nextO g n a=none):∀ u∈onH g n,a < u→(headH g u).old=true→False:=by
 intro u hu ha ho
 unfold nextO at h
 have:=List.find?_eq_none.1 h u hu
 rw [decide_eq_true ha,ho] at this
 exact this rfl
structure SK (g k:Hp) (c d:Col):Prop where
 pages:k.pages=g.pages
 free:k.free=g.free
 wlen:k.w.length=g.w.length
 clen:k.cards.length=g.cards.length
 may:∀ cs,mayH k cs=mayH g cs
 used:usedH k=usedH g
 headE:∀ u,Abs.headE k u=Abs.headE g u
 old:∀ u,(headH k u).old=(headH g u).old
 n:∀ u,(headH k u).n=(headH g u).n
 word:∀ i:Nat,k.w.getD i default≠g.w.getD i default→16+(i:Int)∈usedH g
 rises:Rises c g k
 epoch:d.epoch=c.epoch
 major:d.major=c.major
 work:d.work.length≤100
theorem SK.refl (g:Hp) (c:Col) (h:c.work.length≤100):SK g g c c:=⟨rfl,rfl,rfl,rfl,fun _=>rfl,rfl,fun _=>rfl,fun _=>rfl,fun _=>rfl,fun _ h=>absurd rfl h,.refl c g,rfl,rfl,h⟩
theorem SK.at {g k:Hp} {c d:Col} (h:SK g k c d) (m:Hp) (u:Int):atK m d u=atK m c u:=atK_col h.epoch h.major m u
theorem SK.step {g k m:Hp} {c d e:Col} (h:SK g k c d) (h' : SKeep k m d e):SK g m c e:=by
 refine ⟨h'.pages.trans h.pages,h'.free.trans h.free,h'.wlen.trans h.wlen,h'.clen.trans h.clen,fun cs=>(h'.may cs).trans (h.may cs),h'.used.trans h.used,fun u=>(h'.headE u).trans (h.headE u),fun u=>(h'.head u).2.1.trans (h.old u),fun u=>(h'.head u).2.2.1.trans (h.n u),fun i hi=>?_,?_,h'.epoch.trans h.epoch,h'.major.trans h.major,h'.work h.work⟩
 ·by_cases e:k.w.getD i default=g.w.getD i default
  ·have h1:=h'.word i (by rw [e];exact hi)
   refine mem_usedH.2 ?_
   rw [← h.headE]
   exact atK_ne (c:=d) (by omega)
  ·exact h.word i e
 ·have hr:=h'.rises
  exact h.rises.trans ⟨fun u=>by have:=hr.le u;rw [h.at,h.at] at this;exact this,fun u e=>by have:=hr.out u (by rw [h.at];exact e);rw [h.at] at this;exact this⟩
theorem SK.light {g k:Hp} {c d:Col} (h:SK g k c d) (hl:g.light):k.light:=by unfold Hp.light;rw [h.free];exact hl
theorem SK.small {g k:Hp} {c d:Col} (h:SK g k c d) (hs:g.small):k.small:=by unfold Hp.small;rw [h.free,h.pages,h.clen,h.wlen];exact hs
theorem SK.field {g k:Hp} {c d:Col} (h:SK g k c d) {u f:Int} (h0:Abs.headE g u=0) (h1:1≤f) (h2:f≤(headH g u).n):wordAt k (u+f)=wordAt g (u+f):=by
 obtain ⟨had,hnot⟩:=field_adr h0 h1 h2
 have ha1:=had.1
 unfold wordAt at0
 by_cases e:k.w.getD (u+f - 16).toNat 0=g.w.getD (u+f - 16).toNat 0
 ·exact e
 ·exfalso
  have:=h.word _ e
  rw [show 16+((u+f - 16).toNat:Int)=u+f by omega] at this
  exact hnot this
theorem SK.young {g k:Hp} {c d:Col} (h:SK g k c d) (u:Int):youngH k u=youngH g u:=by unfold youngH;rw [h.headE,h.old]
theorem SK.next {g k:Hp} {c d:Col} (h:SK g k c d) (n a:Int):nextO k n a=nextO g n a:=by
 unfold nextO onH onTo
 rw [h.clen,h.used]
 congr 1
 funext b
 rw [h.old]
def isO (g:Hp) (u:Int):Prop:=headE g u=0∧(headH g u).old=true
def crd (u:Int):Int:=(u - 16) / 8
def hasY (g:Hp) (u:Int):Prop:=∃ f:Int,1≤f∧f≤(headH g u).n∧youngH g (wordAt g (u+f))=true
theorem o_card {g:Hp} {u:Int} (h:isO g u):0≤crd u∧crd u < (g.cards.length:Int)∧16+8 * crd u≤u∧u < 16+8 * crd u+8:=by
 obtain ⟨_,_,_,h1,h2⟩:=head_fits h.1
 obtain ⟨_,_,h3,h4,_,h64⟩:=shapedH_of (mayH_shaped (headE_of h.1).1)
 unfold crd
 omega
theorem o_next {g:Hp} {u v:Int} (hu:headE g u=0) (hv:headE g v=0) (h:u < v):u+(headH g u).n+1≤v:=by
 obtain ⟨_,_,hn,_⟩:=head_fits hu
 obtain ⟨_,hr,_⟩:=headE_of hu
 obtain ⟨_,hrv,_⟩:=headE_of hv
 apply Classical.byContradiction
 intro hlt
 exact hrv (inside hr h (by omega))
theorem o_end {g:Hp} {u:Int} (hu:headE g u=0):u+(headH g u).n+1≤16+(g.w.length:Int):=by
 obtain ⟨_,_,hn,_⟩:=head_fits hu
 obtain ⟨hm,hr,_⟩:=headE_of hu
 have:=room_end hr
 obtain ⟨_,_,h3,_⟩:=shapedH_of (mayH_shaped hm)
 omega
structure ScAt (g:Hp) (c:Col) (i:Nat) (p:Int) (k:Hp) (d:Col):Prop where
 sk:SK g k c d
 phase:d.phase=4
 c0:0≤d.card
 c1:d.card≤(g.cards.length:Int)
 hi:∀ j:Nat,(d.card < (j:Int)∨((j:Int)=d.card∧d.seek=0))→k.cards.getD j false=g.cards.getD j false
 lo:∀ u,isO g u→crd u < d.card→g.cards.getD (crd u).toNat false=true→hasY g u→k.cards.getD (crd u).toNat false=true
 shaded:∀ u,isO g u→crd u < d.card→g.cards.getD (crd u).toNat false=true→∀ f:Int,1≤f→f≤(headH g u).n→youngH g (wordAt g (u+f))=true→atK k c (wordAt g (u+f))≠1
 cur:d.seek≠0→d.card < (g.cards.length:Int)∧g.cards.getD d.card.toNat false=true
 here:d.seek≠0→∀ u,isO g u→crd u=d.card→(u < d.at_∨(d.at_=0∧u≤d.seek))→∀ f:Int,1≤f→f≤(headH g u).n→youngH g (wordAt g (u+f))=true→atK k c (wordAt g (u+f))≠1∧d.met=true
 at_:d.seek≠0→d.at_≠0→d.at_=d.seek∧isO g d.at_∧crd d.at_=d.card∧0≤d.field_∧d.field_ < (headH g d.at_).n
 flds:d.seek≠0→d.at_≠0→∀ f:Int,1≤f→f≤d.field_→youngH g (wordAt g (d.at_+f))=true→atK k c (wordAt g (d.at_+f))≠1∧d.met=true
 only:∀ u,atK k c u≠atK g c u→atK g c u=1∧atK k c u=2∧∃ x f,isO g x∧g.cards.getD (crd x).toNat false=true∧1≤f∧f≤(headH g x).n∧u=wordAt g (x+f)
 s0:0≤d.seek
 s8:d.seek≠0→d.seek < 16+8 * d.card+8
 p0:16≤p
 p1:p≤16+(g.w.length:Int)
 pz:d.seek=0→∀ u,isO g u→d.card≤crd u→p≤u
 pa:d.seek≠0→d.at_≠0→p=d.at_+1+d.field_
 pn:d.seek≠0→d.at_=0→∀ u,isO g u→d.seek < u→d.card≤crd u→p≤u
 pot:(i:Int)≤p - 16+2 * d.card+(if d.seek≠0 then 1 else 0)
theorem ScAt.start {g:Hp} {c:Col} (hp:c.phase=4) (hc:c.card=0) (hs:c.seek=0) (hw:c.work.length≤100):ScAt g c 0 16 g c:=by
 refine ⟨.refl g c hw,hp,by omega,by omega,fun j _=>rfl,fun u hu h=>?_,fun u hu h=>?_,fun h=>absurd hs h,fun h=>absurd hs h,fun h=>absurd hs h,fun h=>absurd hs h,fun u h=>absurd rfl h,by omega,fun h=>absurd hs h,by omega,by omega,fun _ u hu _=>?_,fun h=>absurd hs h,fun h=>absurd hs h,?_⟩
 ·have:=(o_card hu).1;omega
 ·have:=(o_card hu).1;omega
 ·have:=o_card hu;omega
 ·rw [if_neg (fun k=>k hs)];omega
theorem set_other {l:List Bool} {n:Int} {j:Nat} {b:Bool} (h:(j:Int)≠n) (h0:0≤n):(l.set n.toNat b).getD j false=l.getD j false:=by
 rw [List.getD_eq_getElem?_getD,List.getElem?_set_ne (by omega),List.getD_eq_getElem?_getD]
theorem set_here {l:List Bool} {n:Int} {b:Bool} (h0:0≤n) (h:n < (l.length:Int)):(l.set n.toNat b).getD n.toNat false=b:=by
 rw [List.getD_eq_getElem?_getD,List.getElem?_set_self (by omega)]
 rfl
theorem met_facts {g k:Hp} {c d:Col} (h:SK g k c d) (v:Int) :
  (youngH g v=true→atK (metS k d v).1 c v≠1∧(metS k d v).2.met=true)∧(∀ u,atK k c u≠1→atK (metS k d v).1 c u≠1)∧(d.met=true→(metS k d v).2.met=true) ∧
  (∀ u,atK (metS k d v).1 c u≠atK k c u→u=v∧youngH g v=true∧atK k c u=1∧atK (metS k d v).1 c u=2)∧(metS k d v).1.cards=k.cards:=by
 have hr:=met_rises k d v
 have hc:=(met_marks k d v).cards
 have nw:∀ u,atK k c u≠1→atK (metS k d v).1 c u≠1:=fun u hu=>by
  have:=hr.nonwhite (u:=u) (by rw [h.at];exact hu)
  rw [h.at] at this
  exact this
 rcases met_cases k d v with ⟨hy,e⟩ | ⟨hy,e⟩
 ·rw [h.young] at hy
  have hsh:∀ u,atK (metS k d v).1 c u=if u=v∧atK k c v=1 then 2 else atK k c u:=fun u=>by
   have q:=atK_shade k d v u
   rw [h.at,h.at,h.at] at q
   rw [e]
   exact q
  refine ⟨fun _=>⟨?_,by rw [e]⟩,nw,fun _=>by rw [e],fun u hu=>?_,hc⟩
  ·rw [hsh]
   by_cases hk:atK k c v=1
   ·rw [if_pos ⟨rfl,hk⟩];decide
   ·rw [if_neg (fun q=>hk q.2)];exact hk
  ·rw [hsh] at hu ⊢
   by_cases hk:u=v∧atK k c v=1
   ·rw [if_pos hk];exact ⟨hk.1,hy,by rw [hk.1];exact hk.2,rfl⟩
   ·rw [if_neg hk] at hu;exact absurd rfl hu
 ·rw [h.young] at hy
  refine ⟨fun q=>by (rw [hy] at q;cases q),nw,fun q=>by rw [e];exact q,fun u hu=>?_,hc⟩
  rw [e] at hu
  exact absurd rfl hu
theorem scan_word {g k:Hp} {c d:Col} (h:SK g k c d) {u f:Int} (hE:Abs.headE g u=0) (h0:0≤f) (h1:f+1≤(headH g u).n):wordOf k (u+1+f)=wordAt g (u+(f+1)):=by
 rw [show u+1+f=u+(f+1) by omega,wordOf_field (by rw [h.headE];exact hE) (by omega) (by rw [h.n];exact h1),h.field hE (by omega) h1]
theorem ScAt.step {g k:Hp} {c d:Col} {i:Nat} {p:Int} (h:ScAt g c i p k d) (hm:mayH g []=true) :
  (∃ p',ScAt g c (i+1) p' (scanS k d).1 (scanS k d).2)∨((g.cards.length:Int)≤d.card∧(scanS k d).1=k∧(scanS k d).2={ d with phase:=5,seek:=0,card:=0,met:=false,at_:=0,field_:=0 }):=by
 have hs:=scan_step k d
 have hsk:=h.sk.step hs.keep
 have hmk:mayH k []=true:=by rw [h.sk.may];exact hm
 generalize (scanS k d).1=k' at *
 generalize (scanS k d).2=d' at *
 cases hs
 case idle hx=>exact absurd ⟨hmk,h.phase,h.c0⟩ hx
 case fin hp hc=>exact .inr ⟨by rw [← h.sk.clen];exact hc,rfl,rfl⟩
 case clean h0 hc hs hd _ hp=>
  left
  have hcg:d.card < (g.cards.length:Int):=by rw [← h.sk.clen];assumption
  have hg:g.cards.getD d.card.toNat false=true:=by
   rw [← h.hi d.card.toNat (.inr ⟨by have:=h.c0;omega,by assumption⟩)]
   assumption
  have hs0:d.seek=0:=by assumption
  refine ⟨p,hsk,h.phase,h.c0,h.c1,fun j hj=>?_,fun u hu hcu hgu hy=>?_,fun u hu hcu hgu f f1 f2 hy=>?_,fun _=>⟨hcg,hg⟩,fun _ u hu hcu hlt=>?_,fun _ ha=>absurd rfl ha,fun _ ha=>absurd rfl ha,fun u hu=>?_,by show (0:Int)≤1;omega,fun _=>?_,h.p0,h.p1,fun hz=>absurd hz (by show ¬ (1:Int)=0;decide),fun _ ha=>absurd rfl ha,fun _ _ u hu _ hcu=>h.pz hs0 u hu hcu,?_⟩
  ·rcases hj with hj | ⟨_,hj⟩
   ·show (k.cards.set d.card.toNat false).getD j false=_
    have hj:d.card < (j:Int):=hj
    rw [set_other (by omega) h.c0]
    exact h.hi j (.inl hj)
   ·exact absurd hj (by show ¬ (1:Int)=0;decide)
  ·have hcu:crd u < d.card:=hcu
   have:=o_card hu
   show (k.cards.set d.card.toNat false).getD (crd u).toNat false=_
   rw [set_other (by omega) h.c0]
   exact h.lo u hu hcu hgu hy
  ·rw [atK_cset];exact h.shaded u hu hcu hgu f f1 f2 hy
  ·have hb:=(o_card hu)
   rcases hlt with hlt | ⟨_,hlt⟩
   ·have hlt:u < 0:=hlt;omega
   ·have hlt:u≤1:=hlt;omega
  ·rw [atK_cset] at hu ⊢;exact h.only u hu
  ·show (1:Int) < 16+8 * d.card+8
   have:=h.c0;omega
  ·have hpot:=h.pot
   rw [if_neg (fun q=>q hs0)] at hpot
   rw [if_pos (show (1:Int)≠0 by decide)]
   show ((i+1:Nat):Int)≤p - 16+2 * d.card+1
   omega
 case skip h0 hc hs hd _ hp=>
  left
  have hcg:d.card < (g.cards.length:Int):=by rw [← h.sk.clen];assumption
  have hs0:d.seek=0:=by assumption
  have hg:g.cards.getD d.card.toNat false=false:=by
   rw [← h.hi d.card.toNat (.inr ⟨by have:=h.c0;omega,hs0⟩)]
   assumption
  have less:∀ u,isO g u→crd u < d.card+1→g.cards.getD (crd u).toNat false=true→crd u < d.card:=fun u hu h1 h2=>by
   by_cases e:crd u=d.card
   ·rw [e,hg] at h2;cases h2
   ·omega
  refine ⟨p,hsk,h.phase,by show 0≤d.card+1;have:=h.c0;omega,by show d.card+1≤_;omega,fun j hj=>?_,fun u hu hcu hgu hy=>h.lo u hu (less u hu hcu hgu) hgu hy,fun u hu hcu hgu=>h.shaded u hu (less u hu hcu hgu) hgu,fun q=>absurd hs0 q,fun q=>absurd hs0 q,fun q=>absurd hs0 q,fun q=>absurd hs0 q,h.only,h.s0,fun q=>absurd hs0 q,h.p0,h.p1,fun _ u hu hcu=>h.pz hs0 u hu (by have hcu:d.card+1≤crd u:=hcu;omega),fun q=>absurd hs0 q,fun q=>absurd hs0 q,?_⟩
  ·refine h.hi j (.inl ?_)
   rcases hj with hj | ⟨hj,_⟩
   ·have hj:d.card+1 < (j:Int):=hj;omega
   ·have hj:(j:Int)=d.card+1:=hj;omega
  ·have hpot:=h.pot
   rw [if_neg (fun q=>q hs0)] at hpot
   rw [if_neg (fun q=>q hs0)]
   show ((i+1:Nat):Int)≤p - 16+2 * (d.card+1)+0
   omega
 case lost h0 hc hs0 ha hf _ hp=>
  exfalso
  obtain ⟨_,hO,_,z1,z2⟩:=h.at_ (by assumption) (by assumption)
  have hf:Abs.headE k d.at_≠0∨d.field_ < 0∨(headH k d.at_).n≤d.field_:=by assumption
  rw [h.sk.headE,h.sk.n] at hf
  rcases hf with hf | hf | hf
  ·exact hf hO.1
  ·omega
  ·omega
 case last v hv=>
  left
  have hsn:d.seek≠0:=by assumption
  have han:d.at_≠0:=by assumption
  have hln:d.field_+1=(headH k d.at_).n:=by assumption
  rw [h.sk.n] at hln
  obtain ⟨a1,a2,a3,a4,a5⟩:=h.at_ hsn han
  obtain ⟨hcg,hgd⟩:=h.cur hsn
  have hvg:v=wordAt g (d.at_+(d.field_+1)):=by rw [hv];exact scan_word h.sk a2.1 a4 (by omega)
  obtain ⟨m1,m2,m3,m4,m5⟩:=met_facts h.sk v
  obtain ⟨c1,c2,c3,c4,c5,c6,c7⟩:=met_col k d v
  have hpa:=h.pa hsn han
  refine ⟨p+1,hsk,c1.trans h.phase,by show 0≤(metS k d v).2.card;rw [c7];exact h.c0,by show (metS k d v).2.card≤_;rw [c7];exact h.c1,fun j hj=>?_,fun u hu hcu hgu hy=>?_,fun u hu hcu hgu f f1 f2 hy=>?_,fun _=>?_,fun _ u hu hcu hlt f f1 f2 hy=>?_,fun _ q=>absurd rfl q,fun _ q=>absurd rfl q,fun u hu=>?_,by show 0≤(metS k d v).2.seek;rw [c6];exact h.s0,fun _=>?_,by have:=h.p0;omega,?_,fun q=>?_,fun _ q=>absurd rfl q,fun _ _ u hu hlt _=>?_,?_⟩
  ·have hj:(metS k d v).2.card < (j:Int)∨((j:Int)=(metS k d v).2.card∧(metS k d v).2.seek=0):=hj
   rw [c7,c6] at hj
   rw [m5];exact h.hi j hj
  ·have hcu:crd u < (metS k d v).2.card:=hcu
   rw [c7] at hcu
   rw [m5];exact h.lo u hu hcu hgu hy
  ·have hcu:crd u < (metS k d v).2.card:=hcu
   rw [c7] at hcu
   exact m2 _ (h.shaded u hu hcu hgu f f1 f2 hy)
  ·show (metS k d v).2.card < _∧g.cards.getD (metS k d v).2.card.toNat false=true
   rw [c7];exact ⟨hcg,hgd⟩
  ·have hcu:crd u=(metS k d v).2.card:=hcu
   rw [c7] at hcu
   have hle:u≤d.seek:=by
    have hlt:u < 0∨((0:Int)=0∧u≤(metS k d v).2.seek):=hlt
    rw [c6] at hlt
    have:=o_card hu
    rcases hlt with q | q
    ·omega
    ·exact q.2
   by_cases e:u=d.at_
   ·by_cases ef:f=d.field_+1
    ·rw [e,ef,← hvg] at hy ⊢
     exact m1 hy
    ·rw [e] at hy f2 ⊢
     have:=h.flds hsn han f f1 (by omega) hy
     exact ⟨m2 _ this.1,m3 this.2⟩
   ·have:=h.here hsn u hu hcu (.inl (by omega)) f f1 f2 hy
    exact ⟨m2 _ this.1,m3 this.2⟩
  ·by_cases e:atK (metS k d v).1 c u=atK k c u
   ·have hu:atK (metS k d v).1 c u≠atK g c u:=hu
    rw [e] at hu ⊢
    exact h.only u hu
   ·obtain ⟨q1,q2,q3,q4⟩:=m4 u e
    have hug:atK g c u=1:=by
     apply Classical.byContradiction
     intro hne
     have hne2:atK k c u≠atK g c u:=by rw [q3];exact fun z=>hne z.symm
     exact hne (h.only u hne2).1
    exact ⟨hug,q4,d.at_,d.field_+1,a2,by rw [a3];exact hgd,by omega,by omega,by rw [q1];exact hvg⟩
  ·show (metS k d v).2.seek < 16+8 * (metS k d v).2.card+8
   rw [c6,c7];exact h.s8 hsn
  ·have:=o_end a2.1;omega
  ·have q:(metS k d v).2.seek=0:=q
   rw [c6] at q;exact absurd q hsn
  ·have hlt:(metS k d v).2.seek < u:=hlt
   rw [c6,← a1] at hlt
   have:=o_next a2.1 hu.1 hlt
   omega
  ·have hpot:=h.pot
   rw [if_pos hsn] at hpot
   show ((i+1:Nat):Int)≤p+1 - 16+2 * (metS k d v).2.card+(if (metS k d v).2.seek≠0 then 1 else 0)
   rw [c7,c6,if_pos hsn]
   omega
 case more v hv=>
  left
  have hsn:d.seek≠0:=by assumption
  have han:d.at_≠0:=by assumption
  have hln:d.field_+1 < (headH k d.at_).n:=by assumption
  rw [h.sk.n] at hln
  obtain ⟨a1,a2,a3,a4,a5⟩:=h.at_ hsn han
  obtain ⟨hcg,hgd⟩:=h.cur hsn
  have hvg:v=wordAt g (d.at_+(d.field_+1)):=by rw [hv];exact scan_word h.sk a2.1 a4 (by omega)
  obtain ⟨m1,m2,m3,m4,m5⟩:=met_facts h.sk v
  obtain ⟨c1,c2,c3,c4,c5,c6,c7⟩:=met_col k d v
  have hpa:=h.pa hsn han
  refine ⟨p+1,hsk,c1.trans h.phase,by show 0≤(metS k d v).2.card;rw [c7];exact h.c0,by show (metS k d v).2.card≤_;rw [c7];exact h.c1,fun j hj=>?_,fun u hu hcu hgu hy=>?_,fun u hu hcu hgu f f1 f2 hy=>?_,fun _=>?_,fun _ u hu hcu hlt f f1 f2 hy=>?_,fun _ _=>?_,fun _ _ f f1 f2 hy=>?_,fun u hu=>?_,by show 0≤(metS k d v).2.seek;rw [c6];exact h.s0,fun _=>?_,by have:=h.p0;omega,?_,fun q=>?_,fun _ _=>?_,fun _ q=>?_,?_⟩
  ·have hj:(metS k d v).2.card < (j:Int)∨((j:Int)=(metS k d v).2.card∧(metS k d v).2.seek=0):=hj
   rw [c7,c6] at hj
   rw [m5];exact h.hi j hj
  ·have hcu:crd u < (metS k d v).2.card:=hcu
   rw [c7] at hcu
   rw [m5];exact h.lo u hu hcu hgu hy
  ·have hcu:crd u < (metS k d v).2.card:=hcu
   rw [c7] at hcu
   exact m2 _ (h.shaded u hu hcu hgu f f1 f2 hy)
  ·show (metS k d v).2.card < _∧g.cards.getD (metS k d v).2.card.toNat false=true
   rw [c7];exact ⟨hcg,hgd⟩
  ·have hcu:crd u=(metS k d v).2.card:=hcu
   rw [c7] at hcu
   have hle:u < d.at_:=by
    have hlt:u < (metS k d v).2.at_∨((metS k d v).2.at_=0∧u≤(metS k d v).2.seek):=hlt
    rw [c6,c4] at hlt
    rcases hlt with q | q
    ·exact q
    ·exact absurd q.1 han
   have:=h.here hsn u hu hcu (.inl hle) f f1 f2 hy
   exact ⟨m2 _ this.1,m3 this.2⟩
  ·show (metS k d v).2.at_=(metS k d v).2.seek∧isO g (metS k d v).2.at_∧crd (metS k d v).2.at_=(metS k d v).2.card∧0≤d.field_+1∧d.field_+1 < (headH g (metS k d v).2.at_).n
   rw [c4,c6,c7]
   exact ⟨a1,a2,a3,by omega,hln⟩
  ·have f2:f≤d.field_+1:=f2
   have hy:youngH g (wordAt g ((metS k d v).2.at_+f))=true:=hy
   show atK (metS k d v).1 c (wordAt g ((metS k d v).2.at_+f))≠1∧(metS k d v).2.met=true
   rw [c4] at hy ⊢
   by_cases ef:f=d.field_+1
   ·rw [ef,← hvg] at hy ⊢
    exact m1 hy
   ·have:=h.flds hsn han f f1 (by omega) hy
    exact ⟨m2 _ this.1,m3 this.2⟩
  ·by_cases e:atK (metS k d v).1 c u=atK k c u
   ·have hu:atK (metS k d v).1 c u≠atK g c u:=hu
    rw [e] at hu ⊢
    exact h.only u hu
   ·obtain ⟨q1,q2,q3,q4⟩:=m4 u e
    have hug:atK g c u=1:=by
     apply Classical.byContradiction
     intro hne
     have hne2:atK k c u≠atK g c u:=by rw [q3];exact fun z=>hne z.symm
     exact hne (h.only u hne2).1
    exact ⟨hug,q4,d.at_,d.field_+1,a2,by rw [a3];exact hgd,by omega,by omega,by rw [q1];exact hvg⟩
  ·show (metS k d v).2.seek < 16+8 * (metS k d v).2.card+8
   rw [c6,c7];exact h.s8 hsn
  ·have:=o_end a2.1;omega
  ·have q:(metS k d v).2.seek=0:=q
   rw [c6] at q;exact absurd q hsn
  ·show p+1=(metS k d v).2.at_+1+(d.field_+1)
   rw [c4];omega
  ·have q:(metS k d v).2.at_=0:=q
   rw [c4] at q;exact absurd q han
  ·have hpot:=h.pot
   rw [if_pos hsn] at hpot
   show ((i+1:Nat):Int)≤p+1 - 16+2 * (metS k d v).2.card+(if (metS k d v).2.seek≠0 then 1 else 0)
   rw [c7,c6,if_pos hsn]
   omega
 case next a hn=>
  left
  have hsn:d.seek≠0:=by assumption
  have ha0:d.at_=0:=by assumption
  rw [h.sk.next] at hn
  obtain ⟨hcg,hgd⟩:=h.cur hsn
  obtain ⟨n1,n2,n3,n4⟩:=nextO_some hn
  rw [mem_onH h.c0 hcg] at n1
  have hO:isO g a:=⟨n1.1,n3⟩
  have n1':=n1
  have hca:crd a=d.card:=by unfold crd;omega
  have hpn:=h.pn hsn ha0 a hO n2 (by omega)
  have hfit:=head_fits n1.1
  have hend:=o_end n1.1
  have hs0:=h.s0
  have hc00:=h.c0
  obtain ⟨_,n12,n13⟩:=n1
  refine ⟨a+1,hsk,h.phase,h.c0,h.c1,fun j hj=>h.hi j (hj.imp id fun q=>absurd q.2 (by show ¬ a=0;omega)),h.lo,h.shaded,fun _=>⟨hcg,hgd⟩,fun _ u hu hcu hlt f f1 f2 hy=>?_,fun _ _=>⟨rfl,hO,hca,Int.le_refl _,by show (0:Int) < (headH g a).n;omega⟩,fun _ _ f f1 f2=>?_,h.only,by show 0≤a;omega,fun _=>by show a < 16+8 * d.card+8;omega,by have:=h.p0;omega,by omega,fun q=>absurd q (by show ¬ a=0;omega),fun _ _=>by show a+1=a+1+0;omega,fun _ q=>absurd q (by show ¬ a=0;omega),?_⟩
  ·have hult:u < a:=by
    rcases hlt with q | q
    ·exact q
    ·exact absurd q.1 (by show ¬ a=0;omega)
   have hcu:crd u=d.card:=hcu
   have hb:=o_card hu
   have hle:u≤d.seek:=by
    apply Classical.byContradiction
    intro hgt
    have:=n4 u ((mem_onH h.c0 hcg).2 ⟨hu.1,by omega,by omega⟩) (by omega) hu.2
    omega
   exact h.here hsn u hu hcu (.inr ⟨ha0,hle⟩) f f1 f2 hy
  ·have f2:f≤0:=f2
   omega
  ·have hpot:=h.pot
   rw [if_pos hsn] at hpot
   show ((i+1:Nat):Int)≤a+1 - 16+2 * d.card+(if a≠0 then 1 else 0)
   rw [if_pos (by omega)]
   omega
 case done hn=>
  left
  have hsn:d.seek≠0:=by assumption
  have ha0:d.at_=0:=by assumption
  have hn:nextO k d.card d.seek=none:=by assumption
  rw [h.sk.next] at hn
  obtain ⟨hcg,hgd⟩:=h.cur hsn
  have h8:=h.s8 hsn
  have hle:∀ u,isO g u→crd u=d.card→u≤d.seek:=fun u hu hcu=>by
   have hb:=o_card hu
   apply Classical.byContradiction
   intro hgt
   exact nextO_none hn u ((mem_onH h.c0 hcg).2 ⟨hu.1,by omega,by omega⟩) (by omega) hu.2
  have hat:∀ u,atK (if d.met=true then cset k d.card true else k) c u=atK k c u:=fun u=>by
   by_cases e:d.met=true
   ·rw [if_pos e,atK_cset]
   ·rw [if_neg e]
  have hcd:∀ j:Nat,(j:Int)≠d.card→(if d.met=true then cset k d.card true else k).cards.getD j false=k.cards.getD j false:=fun j hj=>by
   by_cases e:d.met=true
   ·rw [if_pos e];exact set_other hj h.c0
   ·rw [if_neg e]
  refine ⟨p,hsk,h.phase,by show 0≤d.card+1;have:=h.c0;omega,by show d.card+1≤_;omega,fun j hj=>?_,fun u hu hcu hgu hy=>?_,fun u hu hcu hgu f f1 f2 hy=>?_,fun q=>absurd rfl q,fun q=>absurd rfl q,fun q=>absurd rfl q,fun q=>absurd rfl q,fun u hu=>?_,Int.le_refl _,fun q=>absurd rfl q,h.p0,h.p1,fun _ u hu hcu=>?_,fun q=>absurd rfl q,fun q=>absurd rfl q,?_⟩
  ·have hj1:d.card < (j:Int):=by
    rcases hj with hj | ⟨hj,_⟩
    ·have hj:d.card+1 < (j:Int):=hj;omega
    ·have hj:(j:Int)=d.card+1:=hj;omega
   rw [hcd j (by omega)]
   exact h.hi j (.inl hj1)
  ·have hcu:crd u < d.card+1:=hcu
   have hb:=o_card hu
   by_cases e:crd u=d.card
   ·obtain ⟨f,f1,f2,hyy⟩:=hy
    have:=(h.here hsn u hu e (.inr ⟨ha0,hle u hu e⟩) f f1 f2 hyy).2
    rw [if_pos this,e]
    exact set_here h.c0 (by rw [h.sk.clen];exact hcg)
   ·rw [hcd _ (by omega)]
    exact h.lo u hu (by omega) hgu hy
  ·have hcu:crd u < d.card+1:=hcu
   rw [hat]
   by_cases e:crd u=d.card
   ·exact (h.here hsn u hu e (.inr ⟨ha0,hle u hu e⟩) f f1 f2 hy).1
   ·exact h.shaded u hu (by omega) hgu f f1 f2 hy
  ·rw [hat] at hu ⊢;exact h.only u hu
  ·have hcu:d.card+1≤crd u:=hcu
   have hb:=o_card hu
   exact h.pn hsn ha0 u hu (by omega) (by omega)
  ·have hpot:=h.pot
   rw [if_pos hsn] at hpot
   show ((i+1:Nat):Int)≤p - 16+2 * (d.card+1)+(if (0:Int)≠0 then 1 else 0)
   rw [if_neg (by decide)]
   omega
end Go.Abs
namespace Go.Abs
def sumI (l:List Int) (f:Int→Int):Int:=(l.map f).sum
theorem sumI_nil (f:Int→Int):sumI [] f=0:=rfl
theorem sumI_cons (x:Int) (l:List Int) (f:Int→Int):sumI (x :: l) f=f x+sumI l f:=by unfold sumI;simp
theorem sumI_congr {l:List Int} {f h:Int→Int} (e:∀ x∈l,f x=h x):sumI l f=sumI l h:=by
 induction l with
 | nil=>rfl
 | cons x r ih=>rw [sumI_cons,sumI_cons,e x (List.mem_cons_self ..),ih fun y hy=>e y (List.mem_cons_of_mem _ hy)]
theorem sumI_le {l : List Int} {f h : Int → Int} (e : ∀ x ∈ l, f x ≤ h x) : sumI l f ≤ sumI l h := by
  induction l with
  | nil => exact Int.le_refl _
  | cons x r ih =>
    rw [sumI_cons, sumI_cons]
    have := e x (List.mem_cons_self ..)
    have := ih fun y hy => e y (List.mem_cons_of_mem _ hy)
    omega
theorem sumI_nonneg {l : List Int} {f : Int → Int} (e : ∀ x ∈ l, 0 ≤ f x) : 0 ≤ sumI l f := by
  induction l with
  | nil => exact Int.le_refl _
  | cons x r ih =>
    rw [sumI_cons]
    have := e x (List.mem_cons_self ..)
    have := ih fun y hy => e y (List.mem_cons_of_mem _ hy)
    omega
theorem sumI_one {l : List Int} (hn : l.Nodup) {f h : Int → Int} {a : Int} (ha : a ∈ l) (e : ∀ x ∈ l, x ≠ a → h x = f x) : sumI l h = sumI l f - f a + h a := by
  induction l with
  | nil => cases ha
  | cons x r ih =>
    rw [List.nodup_cons] at hn
    rw [sumI_cons, sumI_cons]
    by_cases hx : x = a
    · subst hx
      rw [sumI_congr (l := r) (f := h) (h := f) fun y hy => e y (List.mem_cons_of_mem _ hy) fun k => hn.1 (k ▸ hy)]
      omega
    · have ha' : a ∈ r := by
        rcases List.mem_cons.1 ha with k | k
        · exact absurd k.symm hx
        · exact k
      rw [e x (List.mem_cons_self ..) hx, ih hn.2 ha' fun y hy => e y (List.mem_cons_of_mem _ hy)]
      omega
theorem sumI_add (l:List Int) (f h:Int→Int):sumI l (fun x=>f x+h x)=sumI l f+sumI l h:=by
 induction l with
 | nil=>rfl
 | cons x r ih=>rw [sumI_cons,sumI_cons,sumI_cons,ih];omega
theorem sumI_const (l : List Int) (k : Int) : sumI l (fun _ => k) = k * (l.length : Int) := by
  induction l with
  | nil => simp [sumI_nil]
  | cons x r ih =>
    rw [sumI_cons, ih, List.length_cons]
    have : k * ((r.length + 1 : Nat) : Int) = k * (r.length : Int) + k := by rw [Int.natCast_add, Int.mul_add]; simp
    omega
theorem sumI_filter {l : List Int} (p : Int → Bool) {f : Int → Int} (h : ∀ x ∈ l, 0 ≤ f x) : sumI (l.filter p) f ≤ sumI l f := by
  induction l with
  | nil => exact Int.le_refl _
  | cons x r ih =>
    have := ih fun y hy => h y (List.mem_cons_of_mem _ hy)
    have h0 := h x (List.mem_cons_self ..)
    rw [List.filter_cons]
    cases p x with
    | true => rw [if_pos rfl, sumI_cons, sumI_cons]; omega
    | false => rw [if_neg (by decide), sumI_cons]; omega
def roomsRec (i:Nat) (ps:List Page):Int:=((cellsRec i ps).map (·.2)).sum
theorem sum_rep (n : Nat) (W b : Int) : (((List.range n).map fun i : Nat => (b + (i : Int) * W, W)).map (·.2)).sum = (n : Int) * W := by
  induction n with
  | zero => simp
  | succ n ih =>
    rw [List.range_succ, List.map_append, List.map_append, List.sum_append, ih]
    have : ((n + 1 : Nat) : Int) * W = (n : Int) * W + W := by rw [Int.natCast_add, Int.add_mul]; simp
    rw [this]
    simp
theorem rooms_on {p:Page} {b:Int} (hp:pageOk p):((cellsOn p b).map (·.2)).sum=if p.kind=2 then p.arg * 16 else if p.kind=1 then 16 else 0:=by
 unfold cellsOn
 by_cases h2:p.kind=2
 ·rw [if_pos h2,if_pos h2];simp
 ·rw [if_neg h2,if_neg h2]
  by_cases h1:p.kind=1
  ·rw [if_pos h1,if_pos h1,sum_rep]
   rcases clsWN (hp.1 h1) with ⟨e1,e2⟩ | ⟨e1,e2⟩ | ⟨e1,e2⟩ <;> rw [e1,e2] <;> decide
  ·rw [if_neg h1,if_neg h1];rfl
theorem rooms_le : ∀ (ps : List Page) (i : Nat) (r : Int), pgo r ps = true → 0 ≤ r → (∀ p ∈ ps, pageOk p) → roomsRec i ps + 16 * r ≤ 16 * (ps.length : Int)
  | [], i, r, h, _, _ => by
    unfold pgo at h
    have := of_decide_eq_true h
    subst this
    simp [roomsRec, cellsRec]
  | p :: ps, i, r, h, hr, hp => by
    have hl : ((p :: ps).length : Int) = (ps.length : Int) + 1 := by simp
    have ih := fun r' (h' : pgo r' ps = true) (hr' : 0 ≤ r') => rooms_le ps (i + 1) r' h' hr' fun q hq => hp q (List.mem_cons_of_mem _ hq)
    have e : roomsRec i (p :: ps) = ((cellsOn p (16 * ((i : Int) + 1))).map (·.2)).sum + roomsRec (i + 1) ps := by
      unfold roomsRec
      show ((cellsOn p (16 * ((i : Int) + 1)) ++ cellsRec (i + 1) ps).map (·.2)).sum = _
      rw [List.map_append, List.sum_append]
    have hpp := hp p (List.mem_cons_self ..)
    rw [e, rooms_on hpp, hl]
    unfold pgo at h
    by_cases h3 : p.kind = 3
    · rw [decide_eq_true h3] at h
      simp only [cond_true, Bool.and_eq_true, Bool.not_eq_true', decide_eq_false_iff_not] at h
      have := ih (r - 1) h.2 (by omega)
      rw [if_neg (by omega), if_neg (by omega)]
      omega
    · rw [decide_eq_false h3] at h
      simp only [cond_false, Bool.and_eq_true, Bool.not_eq_true', decide_eq_false_iff_not] at h
      obtain ⟨⟨hf, h0⟩, h⟩ := h
      by_cases hk2 : p.kind = 2
      · rw [if_pos hk2] at h ⊢
        have := hpp.2 hk2
        have := ih _ h (by omega)
        omega
      · rw [if_neg hk2] at h ⊢
        have := ih _ h (by omega)
        split <;> omega
theorem rooms_all {l:List Page} (hmp:mayP l=true):sumI (cellStarts l) (roomAt l)≤16 * (l.length:Int):=by
 have e0:cellsAll l=cellsRec 0 l:=by
  unfold cellsAll
  rw [if_pos hmp,cellsRec_from l _ 0 rfl]
  rfl
 have e:sumI (cellStarts l) (roomAt l)=roomsRec 0 l:=by
  unfold sumI cellStarts roomsRec
  rw [List.map_map,← e0]
  congr 1
  exact List.map_congr_left fun x hx=>roomAt_mem hx
 have:=rooms_le l 0 0 (by unfold mayP at hmp;rw [Bool.and_eq_true] at hmp;exact hmp.1) (Int.le_refl _) (pages_ok hmp)
 omega
theorem room_two {l:List Page} {a:Int} (h:roomAt l a≠0):2≤roomAt l a:=by
 obtain ⟨_,i,hi⟩:=cellOf_mem (roomAt_pos h)
 have hk:=hi.kind
 simp only at hk
 rcases hk with ⟨_,k2,k3,_,k5⟩ | ⟨_,k2,k3,_,k5⟩
 ·rw [k5];rcases clsWN ⟨k2,k3⟩ with ⟨e,_⟩ | ⟨e,_⟩ | ⟨e,_⟩ <;> omega
 ·omega
theorem starts_half {l:List Page} (hmp:mayP l=true):2 * ((cellStarts l).length:Int)≤16 * (l.length:Int):=by
 have h1:=rooms_all hmp
 have h2:sumI (cellStarts l) (fun _=>2)≤sumI (cellStarts l) (roomAt l):=sumI_le fun x hx=>room_two (mem_starts.1 hx)
 rw [sumI_const] at h2
 omega
def costU (g:Hp) (c:Col) (u:Int):Int:=if atK g c u=1 then (headH g u).n+2 else if atK g c u=2 then (headH g u).n else 0
def isW (g:Hp) (c:Col) (u:Int):Int:=if atK g c u=1 then 1 else 0
def numC (g:Hp):Int:=((cellStarts g.pages).length:Int)
def seekS (g:Hp) (c:Col):Int:=if c.seek≠0 then (((cellStarts g.pages).filter fun s=>decide (c.seek < s)).length:Int)+1 else 0
def atF (g:Hp) (c:Col):Int:=if c.at_=0 then 0 else if atK g c c.at_=2 then c.field_ else -1
def overV (K:Int) (over:Bool) (l:Nat):Int:=if over=true then 5 * K else K * (if l≤4 then (l:Int) else 4)
def pot (g:Hp) (c:Col):Int:=
 5 * (sumI (usedH g) (costU g c) - atF g c+2 * (c.work.length:Int)+seekS g c+1)+(numC g+2) * sumI (usedH g) (isW g c)+overV (numC g+2) c.over c.work.length
theorem used_nodup (g:Hp):(usedH g).Nodup:=(usedH_sorted g).imp fun h=>by omega
theorem costU_nonneg (g:Hp) (c:Col) (u:Int):0≤costU g c u:=by
 unfold costU
 by_cases h1:atK g c u=1
 ·rw [if_pos h1]
  have:=(head_fits (atK_ne (c:=c) (g:=g) (a:=u) (by omega))).2.1
  omega
 ·rw [if_neg h1]
  by_cases h2:atK g c u=2
  ·rw [if_pos h2]
   have:=(head_fits (atK_ne (c:=c) (g:=g) (a:=u) (by omega))).2.1
   omega
  ·rw [if_neg h2];exact Int.le_refl _
theorem isW_nonneg (g:Hp) (c:Col) (u:Int):0≤isW g c u:=by unfold isW;split <;> omega
theorem shade_cost (g:Hp) (c:Col) (v:Int):sumI (usedH g) (costU (shadeG g c v) c)=sumI (usedH g) (costU g c) - (if atK g c v=1 then 2 else 0) ∧
  sumI (usedH g) (isW (shadeG g c v) c)=sumI (usedH g) (isW g c) - (if atK g c v=1 then 1 else 0):=by
 have hn:=marks_n (shade_marks g c v)
 by_cases hv:atK g c v=1
 ·rw [if_pos hv,if_pos hv]
  have hin:v∈usedH g:=mem_usedH.2 (atK_ne (c:=c) (by omega))
  have hne:∀ x,x≠v→atK (shadeG g c v) c x=atK g c x:=fun x hx=>by rw [atK_shade,if_neg (fun k=>hx k.1)]
  have hvv:atK (shadeG g c v) c v=2:=by rw [atK_shade,if_pos ⟨rfl,hv⟩]
  constructor
  ·rw [sumI_one (used_nodup g) (f:=costU g c) (h:=costU (shadeG g c v) c) hin fun x _ hx=>by unfold costU;rw [hne x hx,hn]]
   unfold costU
   rw [if_pos hv,if_neg (by omega),if_pos hvv,hn]
   omega
  ·rw [sumI_one (used_nodup g) (f:=isW g c) (h:=isW (shadeG g c v) c) hin fun x _ hx=>by unfold isW;rw [hne x hx]]
   unfold isW
   rw [if_pos hv,if_neg (by omega)]
   omega
 ·rw [if_neg hv,if_neg hv,shadeG_no hv]
  omega
theorem black_cost {g:Hp} {c:Col} {a:Int} (ha:atK g c a=2):sumI (usedH g) (costU (blackG g c a) c)=sumI (usedH g) (costU g c) - (headH g a).n ∧
  sumI (usedH g) (isW (blackG g c a) c)=sumI (usedH g) (isW g c):=by
 have hn:=marks_n (black_marks g c a)
 have hin:a∈usedH g:=mem_usedH.2 (atK_ne (c:=c) (by omega))
 have hne:∀ x,x≠a→atK (blackG g c a) c x=atK g c x:=fun x hx=>by rw [atK_black,if_neg (fun k=>hx k.1)]
 have haa:atK (blackG g c a) c a=3:=by rw [atK_black,if_pos ⟨rfl,ha⟩]
 constructor
 ·rw [sumI_one (used_nodup g) (f:=costU g c) (h:=costU (blackG g c a) c) hin fun x _ hx=>by unfold costU;rw [hne x hx,hn]]
  unfold costU
  rw [if_neg (by omega),if_pos ha,if_neg (by omega),if_neg (by omega)]
  omega
 ·refine sumI_congr fun x _=>?_
  unfold isW
  by_cases e:x=a
  ·subst e
   rw [if_neg (by omega),if_neg (by omega)]
  ·rw [hne x e]
theorem overV_mono {K:Int} (hK:0≤K) {o:Bool} {l m:Nat} (h:l≤m):overV K o l≤overV K o m:=by
 unfold overV
 cases o
 ·simp only [Bool.false_eq_true,if_false]
  refine Int.mul_le_mul_of_nonneg_left ?_ hK
  by_cases h1:l≤4
  ·rw [if_pos h1]
   split <;> omega
  ·rw [if_neg h1,if_neg (by omega)]
   exact Int.le_refl _
 ·simp only [if_true]
  exact Int.le_refl _
theorem numC_nonneg (g:Hp):0≤numC g:=by unfold numC;omega
theorem shade_pot (g:Hp) (c:Col) (v:Int) {K:Int} (hK:0≤K) :
  5 * (sumI (usedH g) (costU (shadeG g c v) c)+2 * ((shadeC g c v).work.length:Int))+K * sumI (usedH g) (isW (shadeG g c v) c)+overV K (shadeC g c v).over (shadeC g c v).work.length ≤
  5 * (sumI (usedH g) (costU g c)+2 * (c.work.length:Int))+K * sumI (usedH g) (isW g c)+overV K c.over c.work.length:=by
 obtain ⟨e1,e2⟩:=shade_cost g c v
 rw [e1,e2]
 by_cases hv:atK g c v=1
 ·rw [if_pos hv,if_pos hv,shadeC_yes hv]
  have hmul:K * (sumI (usedH g) (isW g c) - 1)=K * sumI (usedH g) (isW g c) - K:=by rw [Int.mul_sub];simp
  rw [hmul]
  by_cases h4:c.work.length < 4
  ·rw [if_pos h4]
   show 5 * (_+2 * ((c.work ++ [v]).length:Int))+_+overV K c.over (c.work ++ [v]).length≤_
   rw [List.length_append,List.length_singleton]
   unfold overV
   cases c.over
   ·simp only [Bool.false_eq_true,if_false]
    rw [if_pos (show c.work.length+1≤4 by omega),if_pos (show c.work.length≤4 by omega)]
    have:K * ((c.work.length+1:Nat):Int)=K * (c.work.length:Int)+K:=by rw [Int.natCast_add,Int.mul_add];simp
    omega
   ·simp only [if_true]
    omega
  ·rw [if_neg h4]
   show 5 * (_+2 * (c.work.length:Int))+_+overV K true c.work.length≤_
   unfold overV
   cases c.over
   ·simp only [Bool.false_eq_true,if_false,if_true]
    have h44:(if c.work.length≤4 then (c.work.length:Int) else 4)=4:=by split <;> omega
    rw [h44]
    omega
   ·simp only [if_true]
    omega
 ·rw [if_neg hv,if_neg hv,shadeC_no hv]
  simp
theorem numC_marks {g k:Hp} (h:Marks g k):numC k=numC g:=by unfold numC;rw [h.pages]
theorem filter_lt_len {l : List Int} {a b : Int} (h : a < b) (hb : b ∈ l) : ((l.filter fun s => decide (b < s)).length : Int) + 1 ≤ ((l.filter fun s => decide (a < s)).length : Int) := by
  induction l with
  | nil => cases hb
  | cons x r ih =>
    have hle : ((r.filter fun s => decide (b < s)).length : Int) ≤ ((r.filter fun s => decide (a < s)).length : Int) := by
      have : (r.filter fun s => decide (b < s)).length ≤ (r.filter fun s => decide (a < s)).length := by
        rw [← List.countP_eq_length_filter, ← List.countP_eq_length_filter]
        exact List.countP_mono_left fun x _ hx => by
          have := of_decide_eq_true hx
          exact decide_eq_true (by omega)
      omega
    rw [List.filter_cons, List.filter_cons]
    rcases List.mem_cons.1 hb with e | hb
    · subst e
      rw [decide_eq_false (show ¬ b < b by omega), decide_eq_true h, if_neg (by decide), if_pos rfl, List.length_cons]
      omega
    · have := ih hb
      by_cases hx : b < x
      · rw [decide_eq_true hx, decide_eq_true (show a < x by omega), if_pos rfl, if_pos rfl, List.length_cons, List.length_cons]
        omega
      · rw [decide_eq_false hx, if_neg (by decide)]
        by_cases hx' : a < x
        · rw [decide_eq_true hx', if_pos rfl, List.length_cons]; omega
        · rw [decide_eq_false hx', if_neg (by decide)]; omega
theorem seek_next {g:Hp} {c d:Col} (hs:c.seek≠0) (hd:d.seek=nextS g.pages c.seek):seekS g d+1≤seekS g c:=by
 unfold seekS
 rw [if_pos hs,hd]
 rcases nextS_cases g.pages c.seek with ⟨h1,h2⟩ | ⟨h1,h2,h3⟩
 ·rw [if_neg (fun k=>k h1)]
  omega
 ·have h6:=(room_adr (h:=g) (mem_starts.1 h2)).1
  rw [if_pos (by omega)]
  have:=filter_lt_len h1 h2
  omega
theorem pot_step {g k:Hp} {c d:Col} (h:TStep g c k d) (hm:mayH g []=true) (hp:c.phase=5) (ht:TAt g c) (hd:d.phase=5):pot k d+5≤pot g c:=by
 have hM:=h.marks
 have hat:=h.at
 have hK:0≤numC g+2:=by have:=numC_nonneg g;omega
 have hcd:∀ m,costU m d=costU m c:=fun m=>by funext u;unfold costU;rw [hat]
 have hwd:∀ m,isW m d=isW m c:=fun m=>by funext u;unfold isW;rw [hat]
 unfold pot
 rw [hM.used,numC_marks hM,hcd,hwd]
 cases h
 case idle h=>exact absurd ⟨hm,hp⟩ h
 case lost _ _ ha h=>
  have hng:atK g c c.at_≠2:=by
   intro hg
   have h1:=ht.f0 ha
   have h2:=ht.fn hg ha
   have h3:greyN g c c.at_=(headH g c.at_).n:=if_pos hg
   omega
  have e1:atF g c = -1:=by unfold atF;rw [if_neg ha,if_neg hng]
  have e2:atF g { c with at_:=0,field_:=0 }=0:=by unfold atF;rw [if_pos rfl]
  have e3:seekS g { c with at_:=0,field_:=0 }=seekS g c:=rfl
  rw [e1,e2,e3]
  show 5 * (_ - 0+2 * (c.work.length:Int)+_+1)+_+overV _ c.over c.work.length+5≤_
  omega
 case last _ _ ha h0 h v hv=>
  have hg:atK g c c.at_=2:=greyN_pos.1 (by have:=(shade_cost g c v);omega)
  have hN:greyN g c c.at_=(headH g c.at_).n:=if_pos hg
  have hg1:atK (shadeG g c v) c c.at_=2:=by rw [atK_shade,if_neg (fun k=>by have:=k.2;rw [← k.1] at this;omega)];exact hg
  obtain ⟨b1,b2⟩:=black_cost hg1
  rw [shadeG_used] at b1 b2
  have hn1:=marks_n (shade_marks g c v) c.at_
  rw [hn1] at b1
  have sp:=shade_pot g c v hK
  rw [b1,b2]
  have e1:atF g c=c.field_:=by unfold atF;rw [if_neg ha,if_pos hg]
  have e2:atF (blackG (shadeG g c v) c c.at_) { shadeC g c v with at_:=0,field_:=0 }=0:=by unfold atF;rw [if_pos rfl]
  have e3:seekS (blackG (shadeG g c v) c c.at_) { shadeC g c v with at_:=0,field_:=0 }=seekS g c:=by
   unfold seekS
   rw [hM.pages]
   show (if (shadeC g c v).seek≠0 then _ else _)=_
   rw [(shadeC_same g c v).seek]
  rw [e1,e2,e3]
  show 5 * (_ - _ - 0+2 * ((shadeC g c v).work.length:Int)+_+1)+_+overV _ (shadeC g c v).over (shadeC g c v).work.length+5≤_
  omega
 case more _ _ ha h0 h v hv=>
  have hg:atK g c c.at_=2:=greyN_pos.1 (by omega)
  have hg1:atK (shadeG g c v) c c.at_=2:=by rw [atK_shade,if_neg (fun k=>by have:=k.2;rw [← k.1] at this;omega)];exact hg
  have sp:=shade_pot g c v hK
  have ea:({ shadeC g c v with field_:=c.field_+1 }:Col).at_=c.at_:=(shadeC_same g c v).at_
  have e1:atF g c=c.field_:=by unfold atF;rw [if_neg ha,if_pos hg]
  have e2:atF (shadeG g c v) { shadeC g c v with field_:=c.field_+1 }=c.field_+1:=by unfold atF;rw [ea,if_neg ha,hat,if_pos hg1]
  have e3:seekS (shadeG g c v) { shadeC g c v with field_:=c.field_+1 }=seekS g c:=by
   unfold seekS
   rw [hM.pages]
   show (if (shadeC g c v).seek≠0 then _ else _)=_
   rw [(shadeC_same g c v).seek]
  rw [e1,e2,e3]
  show 5 * (_ - (c.field_+1)+2 * ((shadeC g c v).work.length:Int)+_+1)+_+overV _ (shadeC g c v).over (shadeC g c v).work.length+5≤_
  omega
 case pop _ _ ha r x hw=>
  have e1:atF g c=0:=by unfold atF;rw [if_pos ha]
  have e2:-1≤atF g { c with at_:=x,field_:=0,work:=r }:=by
   unfold atF
   by_cases h1:({ c with at_:=x,field_:=0,work:=r }:Col).at_=0
   ·rw [if_pos h1];omega
   ·rw [if_neg h1]
    split
    ·show (-1:Int)≤0;omega
    ·exact Int.le_refl _
  have e3:seekS g { c with at_:=x,field_:=0,work:=r }=seekS g c:=rfl
  have hl:c.work.length=r.length+1:=by rw [hw];simp
  have ov:=overV_mono hK (o:=c.over) (l:=r.length) (m:=c.work.length) (by omega)
  rw [e1,e3]
  show 5 * (_ - atF g { c with at_:=x,field_:=0,work:=r }+2 * (r.length:Int)+_+1)+_+overV _ c.over r.length+5≤_
  omega
 case pass _ _ ha hw hs hg=>
  have e1:atF g c=0:=by unfold atF;rw [if_pos ha]
  have e2:atF g { c with seek:=nextS g.pages c.seek }=0:=by unfold atF;rw [if_pos ha]
  have e3:=seek_next (g:=g) (c:=c) (d:={ c with seek:=nextS g.pages c.seek }) hs rfl
  rw [e1,e2]
  show 5 * (_ - 0+2 * (c.work.length:Int)+seekS g { c with seek:=nextS g.pages c.seek }+1)+_+overV _ c.over c.work.length+5≤_
  omega
 case find _ _ ha hw hs hg=>
  have hg' : atK g c (nextS g.pages c.seek)=2:=greyN_pos.1 hg
  have e1:atF g c=0:=by unfold atF;rw [if_pos ha]
  have e2:atF g { c with seek:=nextS g.pages c.seek,at_:=nextS g.pages c.seek,field_:=0 }=0:=by
   unfold atF
   split
   ·rfl
   ·rw [if_pos (by rw [hat];exact hg')]
  have e3:=seek_next (g:=g) (c:=c) (d:={ c with seek:=nextS g.pages c.seek,at_:=nextS g.pages c.seek,field_:=0 }) hs rfl
  rw [e1,e2]
  show 5 * (_ - 0+2 * (c.work.length:Int)+seekS g { c with seek:=nextS g.pages c.seek,at_:=nextS g.pages c.seek,field_:=0 }+1)+_+overV _ c.over c.work.length+5≤_
  omega
 case again _ _ ha hw hs ho=>
  have e1:atF g c=0:=by unfold atF;rw [if_pos ha]
  have e2:atF g { c with over:=false,seek:=1 }=0:=by unfold atF;rw [if_pos ha]
  have e3:seekS g c=0:=by unfold seekS;rw [if_neg (fun k=>k hs)]
  have e4:seekS g { c with over:=false,seek:=1 }≤numC g+1:=by
   unfold seekS numC
   rw [if_pos (show (1:Int)≠0 by decide)]
   have:=List.length_filter_le (fun s=>decide ((1:Int) < s)) (cellStarts g.pages)
   show ((List.filter (fun s=>decide ((1:Int) < s)) (cellStarts g.pages)).length:Int)+1≤_
   omega
  have hl0:c.work.length=0:=by rw [hw];rfl
  have ov1:overV (numC g+2) c.over c.work.length=5 * (numC g+2):=by unfold overV;rw [if_pos ho]
  have ov2:overV (numC g+2) false c.work.length=0:=by
   rw [hl0]
   unfold overV
   simp
  rw [e1,e2,e3,ov1]
  show 5 * (_ - 0+2 * (c.work.length:Int)+seekS g { c with over:=false,seek:=1 }+1)+_+overV _ false c.work.length+5≤_
  rw [ov2]
  omega
 case fin=>exact absurd (show (6:Int)=5 from hd) (by decide)
theorem pot_pos {g:Hp} {c:Col} (ht:TAt g c):5≤pot g c:=by
 unfold pot
 have h1:0≤sumI (usedH g) (isW g c):=sumI_nonneg fun x _=>isW_nonneg g c x
 have h2:0≤(numC g+2) * sumI (usedH g) (isW g c):=Int.mul_nonneg (by have:=numC_nonneg g;omega) h1
 have h3:0≤overV (numC g+2) c.over c.work.length:=by
  unfold overV
  have:=numC_nonneg g
  split
  ·omega
  ·refine Int.mul_nonneg (by omega) ?_
   split <;> omega
 have h4:0≤seekS g c:=by unfold seekS;split <;> omega
 have h5:atF g c≤sumI (usedH g) (costU g c):=by
  have h0:0≤sumI (usedH g) (costU g c):=sumI_nonneg fun x _=>costU_nonneg g c x
  unfold atF
  by_cases ha:c.at_=0
  ·rw [if_pos ha];exact h0
  ·rw [if_neg ha]
   by_cases hg:atK g c c.at_=2
   ·rw [if_pos hg]
    have hfn:=ht.fn hg ha
    have hin:c.at_∈usedH g:=mem_usedH.2 (atK_ne (c:=c) (by omega))
    have:=sumI_one (used_nodup g) (f:=costU g c) (h:=fun x=>if x=c.at_ then 0 else costU g c x) hin fun x _ hx=>if_neg hx
    have h6:0≤sumI (usedH g) (fun x=>if x=c.at_ then 0 else costU g c x):=sumI_nonneg fun x _=>by
     show 0≤(if x=c.at_ then 0 else costU g c x)
     split
     ·exact Int.le_refl _
     ·exact costU_nonneg g c x
    have h7:costU g c c.at_=(headH g c.at_).n:=by unfold costU;rw [if_neg (by omega),if_pos hg]
    simp only [if_true] at this
    omega
   ·rw [if_neg hg];omega
 omega
theorem pot_start {g:Hp} {c:Col} (hm:mayH g []=true) (ha:c.at_=0) (hs:c.seek=0) (hw:c.work.length≤4):pot g c≤5 * ((g.w.length:Int) * (g.w.length:Int) / 4+40):=by
 obtain ⟨_,hmp,hsl,_,_,h64⟩:=shapedH_of (mayH_shaped hm)
 have hC:=starts_half hmp
 have hrm:=rooms_all hmp
 have hU:((usedH g).length:Int)≤numC g:=by
  unfold numC
  rw [usedH_eq hm]
  have:=List.length_filter_le (fun a=>wordAt g a != 0) (cellStarts g.pages)
  omega
 have h1:sumI (usedH g) (costU g c)≤sumI (usedH g) (roomAt g.pages)+((usedH g).length:Int):=by
  have e:sumI (usedH g) (roomAt g.pages)+((usedH g).length:Int)=sumI (usedH g) (fun x=>roomAt g.pages x+1):=by
   rw [sumI_add,sumI_const]
   omega
  rw [e]
  refine sumI_le fun x hx=>?_
  have:=(head_fits (mem_usedH.1 hx)).2.2.1
  unfold costU
  split
  ·omega
  ·split
   ·omega
   ·have:=(head_fits (mem_usedH.1 hx)).2.1
    omega
 have h2:sumI (usedH g) (roomAt g.pages)≤sumI (cellStarts g.pages) (roomAt g.pages):=by
  rw [usedH_eq hm]
  exact sumI_filter _ fun x _=>roomAt_nonneg _ _
 have h3:sumI (usedH g) (isW g c)≤((usedH g).length:Int):=by
  have:sumI (usedH g) (isW g c)≤sumI (usedH g) (fun _=>1):=sumI_le fun x _=>by unfold isW;split <;> omega
  rw [sumI_const] at this
  omega
 have h30:0≤sumI (usedH g) (isW g c):=sumI_nonneg fun x _=>isW_nonneg g c x
 have hK:=numC_nonneg g
 unfold numC at *
 have e1:atF g c=0:=by unfold atF;rw [if_pos ha]
 have e2:seekS g c=0:=by unfold seekS;rw [if_neg (fun k=>k hs)]
 unfold pot numC
 rw [e1,e2]
 generalize sumI (usedH g) (isW g c)=w at *
 generalize hCe:((cellStarts g.pages).length:Int)=C at *
 have hov:overV (C+2) c.over c.work.length≤5 * (C+2):=by
  unfold overV
  split
  ·exact Int.le_refl _
  ·exact Int.le_trans (Int.mul_le_mul_of_nonneg_left (show (c.work.length:Int)≤5 by omega) (by omega)) (Int.le_of_eq (Int.mul_comm _ _))
 have hmw:(C+2) * w≤(C+2) * C:=Int.mul_le_mul_of_nonneg_left (by omega) (by omega)
 have hsl' : (g.w.length:Int)=16 * (g.pages.length:Int):=by omega
 obtain ⟨m,hm2⟩:∃ m:Int,m=8 * (g.pages.length:Int):=⟨_,rfl⟩
 have hW:(g.w.length:Int)=2 * m:=by omega
 have hCm:C≤m:=by omega
 have hsq:(g.w.length:Int) * (g.w.length:Int) / 4=m * m:=by
  rw [hW,show (2 * m) * (2 * m)=4 * (m * m) by rw [Int.mul_assoc,Int.mul_left_comm m 2 m,← Int.mul_assoc];rfl]
  omega
 rw [hsq]
 have hCC:(C+2) * C≤m * m+2 * m:=by
  have a1:(C+2) * C≤(m+2) * m:=Int.mul_le_mul (by omega) hCm (by omega) (by omega)
  have a2:(m+2) * m=m * m+2 * m:=by rw [Int.add_mul]
  omega
 have hmm:8 * m≤m * m:=Int.mul_le_mul_of_nonneg_right (by omega) (by omega)
 generalize (C+2) * w=A at *
 generalize (C+2) * C=B at *
 generalize m * m=Q at *
 omega
theorem TStep.fin6 {k m:Hp} {d e:Col} (hs:TStep k d m e) (hp:d.phase=5) (hd:e.phase=6):e.at_=0∧e.work=[]∧e.seek=0∧e.over=false:=by
 cases hs
 case idle=>omega
 case lost=>have:d.phase=6:=hd;omega
 case last v hv=>have:(shadeC k d v).phase=6:=hd;rw [(shadeC_same k d v).phase] at this;omega
 case more v hv=>have:(shadeC k d v).phase=6:=hd;rw [(shadeC_same k d v).phase] at this;omega
 case pop=>have:d.phase=6:=hd;omega
 case pass=>have:d.phase=6:=hd;omega
 case find=>have:d.phase=6:=hd;omega
 case again=>have:d.phase=6:=hd;omega
 case fin hw hs ho=>exact ⟨rfl,hw,rfl,ho⟩
structure Run (P:Int→Prop) (g:Hp) (c:Col) (i:Nat) (k:Hp) (d:Col):Prop where
 marks:Marks g k
 rises:Rises c g k
 epoch:d.epoch=c.epoch
 major:d.major=c.major
 phase:d.phase=5∨d.phase=6
 known:knownB k d=true
 tat:TAt k d
 led:ledQ P k d
 w100:d.work.length≤100
 pot:d.phase=5→pot k d+5 * (i:Int)≤pot g c
 over:d.phase=6→greyH k d=[]∧d.work=[]∧d.over=false∧d.at_=0∧d.seek=0
theorem Run.start {P:Int→Prop} {g:Hp} {c:Col} (hp:c.phase=5) (hk:knownB g c=true) (ha:c.at_=0) (hw:c.work.length≤100) (hl:ledQ P g c):Run P g c 0 g c:=
 ⟨.refl g,.refl c g,rfl,rfl,.inl hp,hk,⟨fun h=>absurd ha h,fun _ h=>absurd ha h,fun _ h=>absurd ha h⟩,hl,hw,fun _=>by simp,fun h=>by omega⟩
theorem Run.at {P:Int→Prop} {g k:Hp} {c d:Col} {i:Nat} (h:Run P g c i k d) (m:Hp) (u:Int):atK m d u=atK m c u:=atK_col h.epoch h.major m u
theorem Run.step {P:Int→Prop} {g k:Hp} {c d:Col} {i:Nat} (h:Run P g c i k d) (hm:mayH g []=true) (hp:d.phase=5):Run P g c (i+1) (traceS k d).1 (traceS k d).2:=by
 have hs:=trace_step k d
 have hm' : mayH k []=true:=by rw [h.marks.may];exact hm
 obtain ⟨c1,c2,c3⟩:=hs.col
 obtain ⟨l1,l2⟩:=hs.led h.led h.tat
 have hkn:=hs.known h.known fun hg=>by
  have hne:d.at_≠0:=by have:=(grey_adr hg).2.2;omega
  exact ⟨h.tat.f0 hne,h.tat.fn hg hne⟩
 refine ⟨h.marks.trans hs.marks,h.rises.trans ?_,c1.trans h.epoch,c2.trans h.major,?_,hkn,l2,l1,hs.work100 h.w100,?_,?_⟩
 ·have hr:=hs.rises
  exact ⟨fun u=>by have:=hr.le u;rw [h.at,h.at] at this;exact this,fun u e=>by have:=hr.out u (by rw [h.at];exact e);rw [h.at] at this;exact this⟩
 ·rcases c3 with e | e
  ·exact .inl (e.trans hp)
  ·exact .inr e.2
 ·intro hd
  have h1:=pot_step hs hm' hp h.tat hd
  have h2:=h.pot hp
  omega
 ·intro hd
  have hfin:=hs.fin6 hp hd
  exact ⟨known_none hkn hfin.1 hfin.2.1 hfin.2.2.1 hfin.2.2.2,hfin.2.1,hfin.2.2.2,hfin.1,hfin.2.2.1⟩
theorem Run.ends {P:Int→Prop} {g k:Hp} {c d:Col} {i:Nat} (h:Run P g c i k d) (hm:mayH g []=true) (ha:c.at_=0) (hs:c.seek=0) (hw:c.work.length≤4) (hi:((g.w.length:Int) * (g.w.length:Int) / 4+40)≤(i:Int)):d.phase=6:=by
 rcases h.phase with e | e
 ·exfalso
  have h1:=h.pot e
  have h2:=pot_pos h.tat
  have h3:=pot_start hm ha hs hw
  omega
 ·exact e
end Go.Abs
namespace Go.Abs
open Go.Proofs Go.Proofs.YtejnngjfjaeiiaaGreatDoor
set_option maxRecDepth 8000
def inP (low high a:Int):Bool:=decide (a≥low) && decide (a < high)
def outOf (a:List Int) (low high:Int) (i:Nat):List Int:=(a.take i).filter (inP low high)
def stayOf (a:List Int) (low high:Int) (i:Nat):List Int:=(a.take i).filter fun x=>!inP low high x
theorem outOf_step (a:List Int) (low high:Int) (i:Nat) (h:i < a.length):outOf a low high (i+1)=if inP low high (at0 a i) then outOf a low high i ++ [at0 a i] else outOf a low high i:=by
 unfold outOf
 rw [List.take_add_one,List.getElem?_eq_getElem h,List.filter_append,at0_get h]
 cases hp:inP low high a[i] <;> simp [hp]
theorem stayOf_step (a:List Int) (low high:Int) (i:Nat) (h:i < a.length):stayOf a low high (i+1)=if inP low high (at0 a i) then stayOf a low high i else stayOf a low high i ++ [at0 a i]:=by
 unfold stayOf
 rw [List.take_add_one,List.getElem?_eq_getElem h,List.filter_append,at0_get h]
 cases hp:inP low high a[i] <;> simp [hp]
theorem outOf_len (a:List Int) (low high:Int) (i:Nat):(outOf a low high i).length≤i:=Nat.le_trans (List.length_filter_le _ _) (by simp;omega)
theorem stayOf_len (a:List Int) (low high:Int) (i:Nat):(stayOf a low high i).length≤i:=Nat.le_trans (List.length_filter_le _ _) (by simp;omega)
theorem Part_spec (l:Lists) (c low high:Int) (h:0≤c∧c≤2) (hok:l.ok):Spec X 273 [] [l.tv,.int c,.int low,.int high]
  (Ret [] (.tup [(l.set_ c (stayOf (l.at_ c) low high (l.at_ c).length)).tv,.c (.d (.sl .int (outOf (l.at_ c) low high (l.at_ c).length))),.int 0])):=by
 refine spec_go X_ok Tryz.f273 (by kernel_rfl) (by kernel_rfl) (by kernel_rfl) fun _ _=>⟨rfl,?_⟩
 have hc:c=0∨c=1∨c=2:=by omega
 rcases hc with rfl | rfl | rfl
 ·have hm:l.l0.length≤68719476736:=hok.1
  show ACall _ _ _ _ _ _
  refine call_ret (is_spec 0) rfl ?_
  show ABr _ _ _
  refine ⟨fun hb=>absurd hb (by decide),fun _=>?_⟩
  show ACall _ _ _ _ _ _
  refine .mk _ (lown_spec l hok) ?_
  rintro H r ⟨rfl,rfl⟩ _ _
  refine ⟨.inl rfl,?_⟩
  show AOb ((0:Int)≤0∧(0:Int) < 3) _
  refine ⟨by decide,?_⟩
  show ∃ n,_
  refine ⟨0,ALoop.inv (ι:={i:Nat // i≤l.l0.length}) (fun i=>⟨[(1,.int 0),(2,.int low),(3,.int high),(4,.c (.ptr 0 0 0)),(8,.c (.ptr 1 0 0)),(11,.c (.own 5)),(12,.c (.own 6)),(23,.c (.own 2)),(24,.int l.l0.length),(25,.int i.1)],[(0,.vars [.own 2,.own 3,.own 4]),(1,.vars [.d .nilsl,.d .nilsl,.d .nilsl]),(2,.data .int l.l0),(3,.data .int l.l1),(4,.data .int l.l2),(5,.data .int (outOf l.l0 low high i.1)),(6,.data .int (stayOf l.l0 low high i.1))],32⟩) (fun i=>l.l0.length - i.1) ⟨0,Nat.zero_le _⟩ ?_ ?_⟩
  ·exact ⟨[(32,0),(64,1),(288,2),(289,3),(290,4)],.cons _ _ _ .same (.cons _ _ _ .same (.cons _ _ _ .same (.cons _ _ _ (.c _ _ (.ptr _ _ _ _ rfl)) (.cons _ _ _ (.c _ _ (.ptr _ _ _ _ rfl)) (.cons _ _ _ (.c _ _ (.nilown 5 .int rfl rfl)) (.cons _ _ _ (.c _ _ (.nilown 6 .int rfl rfl)) (.cons _ _ _ (.c _ _ (.own _ _ rfl)) (.cons _ _ _ .same (.cons _ _ _ .same .nil))))))))),.old 0 32 _ _ _ rfl rfl (.vars _ _ (.cons _ _ _ _ (.own _ _ rfl) (.cons _ _ _ _ (.own _ _ rfl) (.cons _ _ _ _ (.own _ _ rfl) .nil)))) (.old 1 64 _ _ _ rfl rfl (.vars _ _ (LeL_refl rfl)) (.old 2 288 _ _ _ rfl rfl (.data_eq rfl) (.old 3 289 _ _ _ rfl rfl (.data_eq rfl) (.old 4 290 _ _ _ rfl rfl (.data_eq rfl) (.new 5 .int _ rfl (.new 6 .int _ rfl .nil)))))),rfl⟩
  ·rintro ⟨i,hi⟩
   have ho:=outOf_len l.l0 low high i
   have hs:=stayOf_len l.l0 low high i
   show ABr (decide ((i:Int) < (l.l0.length:Int))) _ _
   refine ⟨fun h2=>?_,fun h2=>?_⟩
   ·have hlt:i < l.l0.length:=by simpa using h2
    have e1:=outOf_step l.l0 low high i hlt
    have e2:=stayOf_step l.l0 low high i hlt
    show AOb ((0:Int)≤(i:Int)∧(i:Int) < (l.l0.length:Int)) _
    refine ⟨by omega,?_⟩
    show AOb ((i:Int).toNat < l.l0.length) _
    refine ⟨by omega,?_⟩
    show ABr (cond (decide (at0 l.l0 i≥low)) (decide (at0 l.l0 i < high)) false) _ _
    refine ⟨fun h3=>?_,fun h3=>?_⟩
    ·have hp:inP low high (at0 l.l0 i)=true:=by unfold inP;simpa using h3
     rw [if_pos hp] at e1 e2
     show AOb ((outOf l.l0 low high i).length+1≤most) _
     refine ⟨by unfold most;omega,?_⟩
     show ARound _ _ _ _
     refine ⟨⟨i+1,hlt⟩,Nat.sub_lt_sub_left hlt (Nat.lt_succ_self i),[(_,5),(0,0),(1,1),(2,2),(3,3),(4,4),(6,6)],.cons _ _ _ .same (.cons _ _ _ .same (.cons _ _ _ .same (.cons _ _ _ (.c _ _ (.ptr _ _ _ _ rfl)) (.cons _ _ _ (.c _ _ (.ptr _ _ _ _ rfl)) (.cons _ _ _ (.c _ _ (.own1 _ _)) (.cons _ _ _ (.c _ _ (.own _ _ rfl)) (.cons _ _ _ (.c _ _ (.own _ _ rfl)) (.cons _ _ _ .same (.cons _ _ _ (.int_eq (wrapP (i:=i) (by unfold maxN;omega))) .nil))))))))),.old 0 0 _ _ _ rfl rfl (.vars _ _ (.cons _ _ _ _ (.own _ _ rfl) (.cons _ _ _ _ (.own _ _ rfl) (.cons _ _ _ _ (.own _ _ rfl) .nil)))) (.old 1 1 _ _ _ rfl rfl (.vars _ _ (LeL_refl rfl)) (.old 2 2 _ _ _ rfl rfl (.data_eq rfl) (.old 3 3 _ _ _ rfl rfl (.data_eq rfl) (.old 4 4 _ _ _ rfl rfl (.data_eq rfl) (.old 5 _ _ _ _ rfl rfl (.data_eq ?_) (.old 6 6 _ _ _ rfl rfl (.data_eq ?_) .nil)))))),rfl⟩
     ·exact e1.symm
     ·exact e2.symm
    ·have hp:¬ inP low high (at0 l.l0 i)=true:=by unfold inP;simpa using h3
     rw [if_neg hp] at e1 e2
     show AOb ((stayOf l.l0 low high i).length+1≤most) _
     refine ⟨by unfold most;omega,?_⟩
     show ARound _ _ _ _
     refine ⟨⟨i+1,hlt⟩,Nat.sub_lt_sub_left hlt (Nat.lt_succ_self i),[(_,6),(0,0),(1,1),(2,2),(3,3),(4,4),(5,5)],.cons _ _ _ .same (.cons _ _ _ .same (.cons _ _ _ .same (.cons _ _ _ (.c _ _ (.ptr _ _ _ _ rfl)) (.cons _ _ _ (.c _ _ (.ptr _ _ _ _ rfl)) (.cons _ _ _ (.c _ _ (.own _ _ rfl)) (.cons _ _ _ (.c _ _ (.own1 _ _)) (.cons _ _ _ (.c _ _ (.own _ _ rfl)) (.cons _ _ _ .same (.cons _ _ _ (.int_eq (wrapP (i:=i) (by unfold maxN;omega))) .nil))))))))),.old 0 0 _ _ _ rfl rfl (.vars _ _ (.cons _ _ _ _ (.own _ _ rfl) (.cons _ _ _ _ (.own _ _ rfl) (.cons _ _ _ _ (.own _ _ rfl) .nil)))) (.old 1 1 _ _ _ rfl rfl (.vars _ _ (LeL_refl rfl)) (.old 2 2 _ _ _ rfl rfl (.data_eq rfl) (.old 3 3 _ _ _ rfl rfl (.data_eq rfl) (.old 4 4 _ _ _ rfl rfl (.data_eq rfl) (.old 5 5 _ _ _ rfl rfl (.data_eq ?_) (.old 6 _ _ _ _ rfl rfl (.data_eq ?_) .nil)))))),rfl⟩
     ·exact e1.symm
     ·exact e2.symm
   ·have hge:i=l.l0.length:=by simp at h2;omega
    show AOb ((0:Int)≤0∧(0:Int) < 3) _
    refine ⟨by decide,?_⟩
    show ARet _ _ _
    refine ⟨[],[],[(l.set_ 0 (stayOf (l.at_ 0) low high (l.at_ 0).length)).tv,.c (.d (.sl .int (outOf (l.at_ 0) low high (l.at_ 0).length))),.int 0],.cons _ _ _ _ (.agg _ _ (.cons _ _ _ _ (.frz_eq rfl ?_) (.cons _ _ _ _ (.frz _ _ rfl) (.cons _ _ _ _ (.frz _ _ rfl) .nil)))) (.cons _ _ _ _ (.frz rfl ?_) (.cons _ _ _ _ .same .nil)),.nil,rfl,rfl,rfl⟩
    ·show stayOf l.l0 low high i=_
     rw [hge];rfl
    ·show outOf l.l0 low high i=_
     rw [hge];rfl
 ·have hm:l.l1.length≤68719476736:=hok.2.1
  show ACall _ _ _ _ _ _
  refine call_ret (is_spec 1) rfl ?_
  show ABr _ _ _
  refine ⟨fun hb=>absurd hb (by decide),fun _=>?_⟩
  show ACall _ _ _ _ _ _
  refine .mk _ (lown_spec l hok) ?_
  rintro H r ⟨rfl,rfl⟩ _ _
  refine ⟨.inl rfl,?_⟩
  show AOb ((0:Int)≤1∧(1:Int) < 3) _
  refine ⟨by decide,?_⟩
  show ∃ n,_
  refine ⟨0,ALoop.inv (ι:={i:Nat // i≤l.l1.length}) (fun i=>⟨[(1,.int 1),(2,.int low),(3,.int high),(4,.c (.ptr 0 0 0)),(8,.c (.ptr 1 0 0)),(11,.c (.own 5)),(12,.c (.own 6)),(23,.c (.own 3)),(24,.int l.l1.length),(25,.int i.1)],[(0,.vars [.own 2,.own 3,.own 4]),(1,.vars [.d .nilsl,.d .nilsl,.d .nilsl]),(2,.data .int l.l0),(3,.data .int l.l1),(4,.data .int l.l2),(5,.data .int (outOf l.l1 low high i.1)),(6,.data .int (stayOf l.l1 low high i.1))],32⟩) (fun i=>l.l1.length - i.1) ⟨0,Nat.zero_le _⟩ ?_ ?_⟩
  ·exact ⟨[(32,0),(64,1),(288,2),(289,3),(290,4)],.cons _ _ _ .same (.cons _ _ _ .same (.cons _ _ _ .same (.cons _ _ _ (.c _ _ (.ptr _ _ _ _ rfl)) (.cons _ _ _ (.c _ _ (.ptr _ _ _ _ rfl)) (.cons _ _ _ (.c _ _ (.nilown 5 .int rfl rfl)) (.cons _ _ _ (.c _ _ (.nilown 6 .int rfl rfl)) (.cons _ _ _ (.c _ _ (.own _ _ rfl)) (.cons _ _ _ .same (.cons _ _ _ .same .nil))))))))),.old 0 32 _ _ _ rfl rfl (.vars _ _ (.cons _ _ _ _ (.own _ _ rfl) (.cons _ _ _ _ (.own _ _ rfl) (.cons _ _ _ _ (.own _ _ rfl) .nil)))) (.old 1 64 _ _ _ rfl rfl (.vars _ _ (LeL_refl rfl)) (.old 2 288 _ _ _ rfl rfl (.data_eq rfl) (.old 3 289 _ _ _ rfl rfl (.data_eq rfl) (.old 4 290 _ _ _ rfl rfl (.data_eq rfl) (.new 5 .int _ rfl (.new 6 .int _ rfl .nil)))))),rfl⟩
  ·rintro ⟨i,hi⟩
   have ho:=outOf_len l.l1 low high i
   have hs:=stayOf_len l.l1 low high i
   show ABr (decide ((i:Int) < (l.l1.length:Int))) _ _
   refine ⟨fun h2=>?_,fun h2=>?_⟩
   ·have hlt:i < l.l1.length:=by simpa using h2
    have e1:=outOf_step l.l1 low high i hlt
    have e2:=stayOf_step l.l1 low high i hlt
    show AOb ((0:Int)≤(i:Int)∧(i:Int) < (l.l1.length:Int)) _
    refine ⟨by omega,?_⟩
    show AOb ((i:Int).toNat < l.l1.length) _
    refine ⟨by omega,?_⟩
    show ABr (cond (decide (at0 l.l1 i≥low)) (decide (at0 l.l1 i < high)) false) _ _
    refine ⟨fun h3=>?_,fun h3=>?_⟩
    ·have hp:inP low high (at0 l.l1 i)=true:=by unfold inP;simpa using h3
     rw [if_pos hp] at e1 e2
     show AOb ((outOf l.l1 low high i).length+1≤most) _
     refine ⟨by unfold most;omega,?_⟩
     show ARound _ _ _ _
     refine ⟨⟨i+1,hlt⟩,Nat.sub_lt_sub_left hlt (Nat.lt_succ_self i),[(_,5),(0,0),(1,1),(2,2),(3,3),(4,4),(6,6)],.cons _ _ _ .same (.cons _ _ _ .same (.cons _ _ _ .same (.cons _ _ _ (.c _ _ (.ptr _ _ _ _ rfl)) (.cons _ _ _ (.c _ _ (.ptr _ _ _ _ rfl)) (.cons _ _ _ (.c _ _ (.own1 _ _)) (.cons _ _ _ (.c _ _ (.own _ _ rfl)) (.cons _ _ _ (.c _ _ (.own _ _ rfl)) (.cons _ _ _ .same (.cons _ _ _ (.int_eq (wrapP (i:=i) (by unfold maxN;omega))) .nil))))))))),.old 0 0 _ _ _ rfl rfl (.vars _ _ (.cons _ _ _ _ (.own _ _ rfl) (.cons _ _ _ _ (.own _ _ rfl) (.cons _ _ _ _ (.own _ _ rfl) .nil)))) (.old 1 1 _ _ _ rfl rfl (.vars _ _ (LeL_refl rfl)) (.old 2 2 _ _ _ rfl rfl (.data_eq rfl) (.old 3 3 _ _ _ rfl rfl (.data_eq rfl) (.old 4 4 _ _ _ rfl rfl (.data_eq rfl) (.old 5 _ _ _ _ rfl rfl (.data_eq ?_) (.old 6 6 _ _ _ rfl rfl (.data_eq ?_) .nil)))))),rfl⟩
     ·exact e1.symm
     ·exact e2.symm
    ·have hp:¬ inP low high (at0 l.l1 i)=true:=by unfold inP;simpa using h3
     rw [if_neg hp] at e1 e2
     show AOb ((stayOf l.l1 low high i).length+1≤most) _
     refine ⟨by unfold most;omega,?_⟩
     show ARound _ _ _ _
     refine ⟨⟨i+1,hlt⟩,Nat.sub_lt_sub_left hlt (Nat.lt_succ_self i),[(_,6),(0,0),(1,1),(2,2),(3,3),(4,4),(5,5)],.cons _ _ _ .same (.cons _ _ _ .same (.cons _ _ _ .same (.cons _ _ _ (.c _ _ (.ptr _ _ _ _ rfl)) (.cons _ _ _ (.c _ _ (.ptr _ _ _ _ rfl)) (.cons _ _ _ (.c _ _ (.own _ _ rfl)) (.cons _ _ _ (.c _ _ (.own1 _ _)) (.cons _ _ _ (.c _ _ (.own _ _ rfl)) (.cons _ _ _ .same (.cons _ _ _ (.int_eq (wrapP (i:=i) (by unfold maxN;omega))) .nil))))))))),.old 0 0 _ _ _ rfl rfl (.vars _ _ (.cons _ _ _ _ (.own _ _ rfl) (.cons _ _ _ _ (.own _ _ rfl) (.cons _ _ _ _ (.own _ _ rfl) .nil)))) (.old 1 1 _ _ _ rfl rfl (.vars _ _ (LeL_refl rfl)) (.old 2 2 _ _ _ rfl rfl (.data_eq rfl) (.old 3 3 _ _ _ rfl rfl (.data_eq rfl) (.old 4 4 _ _ _ rfl rfl (.data_eq rfl) (.old 5 5 _ _ _ rfl rfl (.data_eq ?_) (.old 6 _ _ _ _ rfl rfl (.data_eq ?_) .nil)))))),rfl⟩
     ·exact e1.symm
     ·exact e2.symm
   ·have hge:i=l.l1.length:=by simp at h2;omega
    show AOb ((0:Int)≤1∧(1:Int) < 3) _
    refine ⟨by decide,?_⟩
    show ARet _ _ _
    refine ⟨[],[],[(l.set_ 1 (stayOf (l.at_ 1) low high (l.at_ 1).length)).tv,.c (.d (.sl .int (outOf (l.at_ 1) low high (l.at_ 1).length))),.int 0],.cons _ _ _ _ (.agg _ _ (.cons _ _ _ _ (.frz _ _ rfl) (.cons _ _ _ _ (.frz_eq rfl ?_) (.cons _ _ _ _ (.frz _ _ rfl) .nil)))) (.cons _ _ _ _ (.frz rfl ?_) (.cons _ _ _ _ .same .nil)),.nil,rfl,rfl,rfl⟩
    ·show stayOf l.l1 low high i=_
     rw [hge];rfl
    ·show outOf l.l1 low high i=_
     rw [hge];rfl
 ·have hm:l.l2.length≤68719476736:=hok.2.2
  show ACall _ _ _ _ _ _
  refine call_ret (is_spec 2) rfl ?_
  show ABr _ _ _
  refine ⟨fun hb=>absurd hb (by decide),fun _=>?_⟩
  show ACall _ _ _ _ _ _
  refine .mk _ (lown_spec l hok) ?_
  rintro H r ⟨rfl,rfl⟩ _ _
  refine ⟨.inl rfl,?_⟩
  show AOb ((0:Int)≤2∧(2:Int) < 3) _
  refine ⟨by decide,?_⟩
  show ∃ n,_
  refine ⟨0,ALoop.inv (ι:={i:Nat // i≤l.l2.length}) (fun i=>⟨[(1,.int 2),(2,.int low),(3,.int high),(4,.c (.ptr 0 0 0)),(8,.c (.ptr 1 0 0)),(11,.c (.own 5)),(12,.c (.own 6)),(23,.c (.own 4)),(24,.int l.l2.length),(25,.int i.1)],[(0,.vars [.own 2,.own 3,.own 4]),(1,.vars [.d .nilsl,.d .nilsl,.d .nilsl]),(2,.data .int l.l0),(3,.data .int l.l1),(4,.data .int l.l2),(5,.data .int (outOf l.l2 low high i.1)),(6,.data .int (stayOf l.l2 low high i.1))],32⟩) (fun i=>l.l2.length - i.1) ⟨0,Nat.zero_le _⟩ ?_ ?_⟩
  ·exact ⟨[(32,0),(64,1),(288,2),(289,3),(290,4)],.cons _ _ _ .same (.cons _ _ _ .same (.cons _ _ _ .same (.cons _ _ _ (.c _ _ (.ptr _ _ _ _ rfl)) (.cons _ _ _ (.c _ _ (.ptr _ _ _ _ rfl)) (.cons _ _ _ (.c _ _ (.nilown 5 .int rfl rfl)) (.cons _ _ _ (.c _ _ (.nilown 6 .int rfl rfl)) (.cons _ _ _ (.c _ _ (.own _ _ rfl)) (.cons _ _ _ .same (.cons _ _ _ .same .nil))))))))),.old 0 32 _ _ _ rfl rfl (.vars _ _ (.cons _ _ _ _ (.own _ _ rfl) (.cons _ _ _ _ (.own _ _ rfl) (.cons _ _ _ _ (.own _ _ rfl) .nil)))) (.old 1 64 _ _ _ rfl rfl (.vars _ _ (LeL_refl rfl)) (.old 2 288 _ _ _ rfl rfl (.data_eq rfl) (.old 3 289 _ _ _ rfl rfl (.data_eq rfl) (.old 4 290 _ _ _ rfl rfl (.data_eq rfl) (.new 5 .int _ rfl (.new 6 .int _ rfl .nil)))))),rfl⟩
  ·rintro ⟨i,hi⟩
   have ho:=outOf_len l.l2 low high i
   have hs:=stayOf_len l.l2 low high i
   show ABr (decide ((i:Int) < (l.l2.length:Int))) _ _
   refine ⟨fun h2=>?_,fun h2=>?_⟩
   ·have hlt:i < l.l2.length:=by simpa using h2
    have e1:=outOf_step l.l2 low high i hlt
    have e2:=stayOf_step l.l2 low high i hlt
    show AOb ((0:Int)≤(i:Int)∧(i:Int) < (l.l2.length:Int)) _
    refine ⟨by omega,?_⟩
    show AOb ((i:Int).toNat < l.l2.length) _
    refine ⟨by omega,?_⟩
    show ABr (cond (decide (at0 l.l2 i≥low)) (decide (at0 l.l2 i < high)) false) _ _
    refine ⟨fun h3=>?_,fun h3=>?_⟩
    ·have hp:inP low high (at0 l.l2 i)=true:=by unfold inP;simpa using h3
     rw [if_pos hp] at e1 e2
     show AOb ((outOf l.l2 low high i).length+1≤most) _
     refine ⟨by unfold most;omega,?_⟩
     show ARound _ _ _ _
     refine ⟨⟨i+1,hlt⟩,Nat.sub_lt_sub_left hlt (Nat.lt_succ_self i),[(_,5),(0,0),(1,1),(2,2),(3,3),(4,4),(6,6)],.cons _ _ _ .same (.cons _ _ _ .same (.cons _ _ _ .same (.cons _ _ _ (.c _ _ (.ptr _ _ _ _ rfl)) (.cons _ _ _ (.c _ _ (.ptr _ _ _ _ rfl)) (.cons _ _ _ (.c _ _ (.own1 _ _)) (.cons _ _ _ (.c _ _ (.own _ _ rfl)) (.cons _ _ _ (.c _ _ (.own _ _ rfl)) (.cons _ _ _ .same (.cons _ _ _ (.int_eq (wrapP (i:=i) (by unfold maxN;omega))) .nil))))))))),.old 0 0 _ _ _ rfl rfl (.vars _ _ (.cons _ _ _ _ (.own _ _ rfl) (.cons _ _ _ _ (.own _ _ rfl) (.cons _ _ _ _ (.own _ _ rfl) .nil)))) (.old 1 1 _ _ _ rfl rfl (.vars _ _ (LeL_refl rfl)) (.old 2 2 _ _ _ rfl rfl (.data_eq rfl) (.old 3 3 _ _ _ rfl rfl (.data_eq rfl) (.old 4 4 _ _ _ rfl rfl (.data_eq rfl) (.old 5 _ _ _ _ rfl rfl (.data_eq ?_) (.old 6 6 _ _ _ rfl rfl (.data_eq ?_) .nil)))))),rfl⟩
     ·exact e1.symm
     ·exact e2.symm
    ·have hp:¬ inP low high (at0 l.l2 i)=true:=by unfold inP;simpa using h3
     rw [if_neg hp] at e1 e2
     show AOb ((stayOf l.l2 low high i).length+1≤most) _
     refine ⟨by unfold most;omega,?_⟩
     show ARound _ _ _ _
     refine ⟨⟨i+1,hlt⟩,Nat.sub_lt_sub_left hlt (Nat.lt_succ_self i),[(_,6),(0,0),(1,1),(2,2),(3,3),(4,4),(5,5)],.cons _ _ _ .same (.cons _ _ _ .same (.cons _ _ _ .same (.cons _ _ _ (.c _ _ (.ptr _ _ _ _ rfl)) (.cons _ _ _ (.c _ _ (.ptr _ _ _ _ rfl)) (.cons _ _ _ (.c _ _ (.own _ _ rfl)) (.cons _ _ _ (.c _ _ (.own1 _ _)) (.cons _ _ _ (.c _ _ (.own _ _ rfl)) (.cons _ _ _ .same (.cons _ _ _ (.int_eq (wrapP (i:=i) (by unfold maxN;omega))) .nil))))))))),.old 0 0 _ _ _ rfl rfl (.vars _ _ (.cons _ _ _ _ (.own _ _ rfl) (.cons _ _ _ _ (.own _ _ rfl) (.cons _ _ _ _ (.own _ _ rfl) .nil)))) (.old 1 1 _ _ _ rfl rfl (.vars _ _ (LeL_refl rfl)) (.old 2 2 _ _ _ rfl rfl (.data_eq rfl) (.old 3 3 _ _ _ rfl rfl (.data_eq rfl) (.old 4 4 _ _ _ rfl rfl (.data_eq rfl) (.old 5 5 _ _ _ rfl rfl (.data_eq ?_) (.old 6 _ _ _ _ rfl rfl (.data_eq ?_) .nil)))))),rfl⟩
     ·exact e1.symm
     ·exact e2.symm
   ·have hge:i=l.l2.length:=by simp at h2;omega
    show AOb ((0:Int)≤2∧(2:Int) < 3) _
    refine ⟨by decide,?_⟩
    show ARet _ _ _
    refine ⟨[],[],[(l.set_ 2 (stayOf (l.at_ 2) low high (l.at_ 2).length)).tv,.c (.d (.sl .int (outOf (l.at_ 2) low high (l.at_ 2).length))),.int 0],.cons _ _ _ _ (.agg _ _ (.cons _ _ _ _ (.frz _ _ rfl) (.cons _ _ _ _ (.frz _ _ rfl) (.cons _ _ _ _ (.frz_eq rfl ?_) .nil)))) (.cons _ _ _ _ (.frz rfl ?_) (.cons _ _ _ _ .same .nil)),.nil,rfl,rfl,rfl⟩
    ·show stayOf l.l2 low high i=_
     rw [hge];rfl
    ·show outOf l.l2 low high i=_
     rw [hge];rfl
end Go.Abs
namespace Go.Abs
set_option maxRecDepth 8000
def freeW (g:Hp) (a:Int):List Int:=splice g.w (a - 16).toNat (List.replicate (roomAt g.pages a).toNat (0:Int))
def pgI (a:Int):Int:=a / 16 - 1
def outsH (g:Hp) (i:Int):List Int:=outOf (g.free.at_ (g.pages.getD i.toNat default).arg) (16 * (i+1)) (16 * (i+1)+16) (g.free.at_ (g.pages.getD i.toNat default).arg).length
def staysH (g:Hp) (i:Int):List Int:=stayOf (g.free.at_ (g.pages.getD i.toNat default).arg) (16 * (i+1)) (16 * (i+1)+16) (g.free.at_ (g.pages.getD i.toNat default).arg).length
def backH (g:Hp) (i:Int):Hp:=if ((outsH g i).length:Int)=clsN (g.pages.getD i.toNat default).arg then { g with free:=g.free.set_ (g.pages.getD i.toNat default).arg (staysH g i),pages:=dropP g.pages i.toNat } else g
def pushH (g:Hp) (i a:Int):Hp:={ g with free:=g.free.set_ (g.pages.getD i.toNat default).arg (g.free.at_ (g.pages.getD i.toNat default).arg ++ [a]) }
def freeH (g:Hp) (a:Int):Hp:=if headE g a=0 then (if (g.pages.getD (pgI a).toNat default).kind=2 then { g with w:=freeW g a,pages:=dropP g.pages (pgI a).toNat } else backH (pushH { g with w:=freeW g a } (pgI a) a) (pgI a)) else Hp.zero
theorem nodup_le : ∀ {l m : List Int}, l.Nodup → (∀ x ∈ l, x ∈ m) → l.length ≤ m.length
  | [], _, _, _ => Nat.zero_le _
  | x :: l, m, h, hs => by
    rw [List.nodup_cons] at h
    have hx := hs x (List.mem_cons_self ..)
    have := nodup_le (m := m.erase x) h.2 fun y hy => (List.mem_erase_of_ne (fun e : y = x => h.1 (e ▸ hy))).2 (hs y (List.mem_cons_of_mem _ hy))
    rw [List.length_erase_of_mem hx] at this
    have := List.length_pos_of_mem hx
    simp; omega
theorem may_light {g:Hp} (h:mayH g []=true):(flats [g.free]).length≤512:=by
 obtain ⟨h1,h2,h3,h4⟩:=mayH_of h
 refine Nat.le_trans (nodup_le h4 (m:=cellStarts g.pages) fun x hx=>?_) (by unfold cellStarts;rw [List.length_map];exact cellsAll_len _)
 obtain ⟨l,hl,hx⟩:=mem_flats.1 hx
 exact mem_starts.2 (by have:=(listed_free (h2 l hl) hx).1;omega)
theorem may_at {g:Hp} (h:mayH g []=true) (c:Int):(g.free.at_ c).length≤512:=by
 have:=may_light h
 unfold flats Lists.flat at this
 simp at this
 unfold Lists.at_
 split
 ·omega
 ·split <;> omega
theorem head_drops {g:Hp} {a:Int} (h:headE g a=0):0≤pgI a∧Drops g.pages (pgI a).toNat:=by
 obtain ⟨hm,hr,_⟩:=headE_of h
 obtain ⟨hmp,j,hj⟩:=cellOf_mem (roomAt_pos hr)
 have e:pgI a=(j:Int):=hj.div
 rw [e]
 refine ⟨by omega,hmp,hj.lt,?_⟩
 rcases hj.kind with h | h
 ·exact .inl h.1
 ·exact .inr h.1
theorem head_room {g:Hp} {a:Int} (h:headE g a=0):mayW g.w=true∧16≤a∧0 < roomAt g.pages a∧a+roomAt g.pages a≤16+g.w.length:=by
 obtain ⟨hm,hr,_⟩:=headE_of h
 obtain ⟨hmw,hmp,hlen,_⟩:=shapedH_of (mayH_shaped hm)
 obtain ⟨_,j,hj⟩:=cellOf_mem (roomAt_pos hr)
 obtain ⟨_,hd⟩:=head_drops h
 have e:(pgI a).toNat=j:=by have:=hj.div;unfold pgI;omega
 rw [e] at hd
 have h1:=hj.lo
 have h2:=hj.hi
 have h3:=hj.lt
 have hb:=hd.all.1
 refine ⟨hmw,by omega,hj.pos,?_⟩
 rcases hj.kind with ⟨k1,k2,k3,k4,k5⟩ | ⟨k1,k2,k3,k4,k5⟩
 ·have:a+roomAt g.pages a≤16 * ((j:Int)+2):=k4
  omega
 ·have k4:a=16 * ((j:Int)+1):=k4
  have k5:roomAt g.pages a=(g.pages.getD j default).arg * 16:=k5
  unfold sizeP at hb
  rw [if_pos k1] at hb
  omega
theorem freeW_len {g:Hp} {a:Int} (h:headE g a=0):(freeW g a).length=g.w.length:=by
 obtain ⟨_,z2,z3,z4⟩:=head_room h
 unfold freeW splice
 simp
 omega
end Go.Abs
namespace Go.Abs
set_option maxRecDepth 8000
theorem pigeon {l m:List Int} (h:l.Nodup) (hs:∀ x∈l,x∈m) (hl:m.length≤l.length):∀ y∈m,y∈l:=by
 intro y hy
 apply Classical.byContradiction
 intro hn
 have:=nodup_le (m:=m.erase y) h fun x hx=>(List.mem_erase_of_ne (fun e:x=y=>hn (e ▸ hx))).2 (hs x hx)
 rw [List.length_erase_of_mem hy] at this
 have:=List.length_pos_of_mem hy
 omega
theorem may_no {g:Hp} {cs:List Lists} (h:mayH g cs=true):mayH g []=true:=by
 obtain ⟨h1,h2,h3,h4⟩:=mayH_of h
 refine mayH_mk h1 (fun l hl=>h2 l ?_) h3 ?_
 ·rw [List.mem_singleton.1 hl];exact List.mem_cons_self ..
 ·have e:flats (g.free :: cs)=flats [g.free] ++ flats cs:=by unfold flats;simp
  rw [e] at h4
  exact (List.nodup_append.1 h4).1
theorem listedB_iff {h:Hp} {l:Lists}:listedB h l=true↔∀ d:Int,0≤d→d≤2→∀ x∈l.at_ d,freeB h d x=true:=by
 unfold listedB
 simp only [Bool.and_eq_true,List.all_eq_true]
 constructor
 ·rintro ⟨h0,h1,h2⟩ d hd0 hd2 x hx
  have:d=0∨d=1∨d=2:=by omega
  rcases this with rfl | rfl | rfl
  ·exact h0 x hx
  ·exact h1 x hx
  ·exact h2 x hx
 ·intro h
  exact ⟨h 0 (by omega) (by omega),h 1 (by omega) (by omega),h 2 (by omega) (by omega)⟩
theorem mem_flat {l:Lists} {x:Int}:x∈l.flat↔∃ d:Int,0≤d∧d≤2∧x∈l.at_ d:=by
 unfold Lists.flat
 simp only [List.mem_append]
 constructor
 ·rintro ((h | h) | h)
  ·exact ⟨0,by omega,by omega,h⟩
  ·exact ⟨1,by omega,by omega,h⟩
  ·exact ⟨2,by omega,by omega,h⟩
 ·rintro ⟨d,h1,h2,h⟩
  have:d=0∨d=1∨d=2:=by omega
  rcases this with rfl | rfl | rfl
  ·exact .inl (.inl h)
  ·exact .inl (.inr h)
  ·exact .inr h
theorem at_set {l:Lists} {c d:Int} {x:List Int} (hc:0≤c∧c≤2) (hd:0≤d∧d≤2):(l.set_ c x).at_ d=if d=c then x else l.at_ d:=by
 have h1:c=0∨c=1∨c=2:=by omega
 have h2:d=0∨d=1∨d=2:=by omega
 rcases h1 with rfl | rfl | rfl <;> rcases h2 with rfl | rfl | rfl <;> rfl
theorem set_sub {l:Lists} {c:Int} {x:List Int} (hc:0≤c∧c≤2) (h:x.Sublist (l.at_ c)):(l.set_ c x).flat.Sublist l.flat:=by
 have h1:c=0∨c=1∨c=2:=by omega
 rcases h1 with rfl | rfl | rfl
 ·exact (List.Sublist.append (List.Sublist.append h (List.Sublist.refl _)) (List.Sublist.refl _))
 ·exact (List.Sublist.append (List.Sublist.append (List.Sublist.refl _) h) (List.Sublist.refl _))
 ·exact (List.Sublist.append (List.Sublist.append (List.Sublist.refl _) (List.Sublist.refl _)) h)
theorem set_perm {l:Lists} {c a:Int} (hc:0≤c∧c≤2):(l.set_ c (l.at_ c ++ [a])).flat.Perm (a :: l.flat):=by
 have h1:c=0∨c=1∨c=2:=by omega
 rcases h1 with rfl | rfl | rfl
 ·show ((l.l0 ++ [a]) ++ l.l1 ++ l.l2).Perm (a :: (l.l0 ++ l.l1 ++ l.l2))
  simp only [List.append_assoc,List.singleton_append]
  exact List.perm_middle
 ·show ((l.l0 ++ (l.l1 ++ [a])) ++ l.l2).Perm (a :: (l.l0 ++ l.l1 ++ l.l2))
  simp only [List.append_assoc,List.singleton_append]
  rw [← List.append_assoc,← List.append_assoc]
  exact List.perm_middle
 ·show (l.l0 ++ l.l1 ++ (l.l2 ++ [a])).Perm (a :: (l.l0 ++ l.l1 ++ l.l2))
  rw [← List.append_assoc]
  exact List.perm_append_singleton _ _
theorem cell_end {l:List Page} {x:Int × Int} (h:x∈cellsAll l):16≤x.1∧0 < x.2∧x.1+x.2≤16 * ((l.length:Int)+1):=by
 obtain ⟨hmp,j,hj⟩:=cellOf_mem h
 have h1:=hj.lo
 have h2:=hj.hi
 have h3:=hj.lt
 refine ⟨by omega,hj.pos,?_⟩
 rcases hj.kind with ⟨k1,k2,k3,k4,k5⟩ | ⟨k1,k2,k3,k4,k5⟩
 ·omega
 ·have hb:=(Drops.all ⟨hmp,h3,.inr k1⟩).1
  unfold sizeP at hb
  rw [if_pos k1] at hb
  omega
theorem cells_once {l:List Page} {x y:Int × Int} (hx:x∈cellsAll l) (hy:y∈cellsAll l) {p:Int} (h1:x.1≤p∧p < x.1+x.2) (h2:y.1≤p∧p < y.1+y.2):x=y:=by
 obtain ⟨hmp,_⟩:=cellOf_mem hx
 obtain ⟨e1,_,e3⟩:=cell_end hx
 have ht:=tile l 0 0 (by unfold mayP at hmp;rw [Bool.and_eq_true] at hmp;exact hmp.1) (Int.le_refl _) (fun p hp=>by
  obtain ⟨i,hi,e⟩:=List.mem_iff_getElem.1 hp
  have:=(mayP_ok hmp).1 i hi
  rw [List.getD_eq_getElem?_getD,List.getElem?_eq_getElem hi] at this
  rw [← e];exact this) p (by omega) (by omega)
 have e0:cellsAll l=cellsRec 0 l:=by
  unfold cellsAll
  rw [if_pos hmp,cellsRec_from l _ 0 rfl]
  rfl
 rw [← e0] at ht
 have hc:((cellsAll l).filter (inCell p)).length≤1:=by unfold cnt at ht;omega
 have m1:x∈(cellsAll l).filter (inCell p):=List.mem_filter.2 ⟨hx,decide_eq_true h1⟩
 have m2:y∈(cellsAll l).filter (inCell p):=List.mem_filter.2 ⟨hy,decide_eq_true h2⟩
 generalize (cellsAll l).filter (inCell p)=L at hc m1 m2
 match L,hc,m1,m2 with
 | [],_,m1,_=>cases m1
 | [z],_,m1,m2=>rw [List.mem_singleton.1 m1,List.mem_singleton.1 m2]
 | _ :: _ :: _,hc,_,_=>simp at hc
theorem apart {l:List Page} {a u f:Int} (ha:roomAt l a≠0) (hu:roomAt l u≠0) (hne:u≠a) (hf:0≤f∧f < roomAt l u):¬ (a≤u+f∧u+f < a+roomAt l a):=by
 intro h
 have:=cells_once (roomAt_pos ha) (roomAt_pos hu) (p:=u+f) h ⟨by show u≤_;omega,by show _ < u+_;omega⟩
 exact hne (congrArg Prod.fst this).symm
theorem word_free {g:Hp} {a u:Int} (h:headE g a=0) (hu:16≤u) (p:List Page) (f:Lists) (cd:List Bool):wordAt ⟨freeW g a,p,f,cd⟩ u=if a≤u∧u < a+roomAt g.pages a then 0 else wordAt g u:=by
 obtain ⟨_,z2,z3,z4⟩:=head_room h
 show at0 (freeW g a) (u - 16).toNat=_
 unfold freeW splice wordAt
 rw [at0_app,at0_app]
 simp only [List.length_append,List.length_take,List.length_replicate]
 by_cases c1:u < a
 ·rw [if_pos (by omega),if_pos (by omega),if_neg (by omega),at0_take _ _ _ (by omega)]
 ·by_cases c2:u < a+roomAt g.pages a
  ·rw [if_pos (by omega),if_neg (by omega),if_pos ⟨by omega,c2⟩]
   unfold at0
   rw [List.getD_eq_getElem?_getD,List.getElem?_replicate]
   split <;> rfl
  ·rw [if_neg (by omega),if_neg (by omega),at0_drop]
   congr 1
   omega
theorem word_at {g:Hp} {a u f:Int} (h:headE g a=0) (hu:roomAt g.pages u≠0) (hne:u≠a) (hf:0≤f∧f < roomAt g.pages u) (p:List Page) (fr:Lists) (cd:List Bool):wordAt ⟨freeW g a,p,fr,cd⟩ (u+f)=wordAt g (u+f):=by
 rw [word_free h (by have:=(cell_end (roomAt_pos hu)).1;have:16≤u:=this;omega),if_neg (apart (headE_of h).2.1 hu hne hf)]
theorem word_at0 {g:Hp} {a u:Int} (h:headE g a=0) (hu:roomAt g.pages u≠0) (hne:u≠a) (p:List Page) (fr:Lists) (cd:List Bool):wordAt ⟨freeW g a,p,fr,cd⟩ u=wordAt g u:=by
 have:=word_at h hu hne (f:=0) ⟨Int.le_refl _,by have:=(cell_end (roomAt_pos hu)).2.1;exact this⟩ p fr cd
 rwa [Int.add_zero] at this
theorem word_self {g:Hp} {a:Int} (h:headE g a=0) (p:List Page) (fr:Lists) (cd:List Bool):wordAt ⟨freeW g a,p,fr,cd⟩ a=0:=by
 obtain ⟨_,z2,z3,z4⟩:=head_room h
 rw [word_free h z2,if_pos ⟨Int.le_refl _,by omega⟩]
end Go.Abs
namespace Go.Abs
set_option maxRecDepth 8000
theorem start_cell {l:List Page} {u:Int} (h:u∈cellStarts l):∃ j:Nat,CellOf l (u,roomAt l u) j∧u / 16 - 1=(j:Int):=by
 obtain ⟨_,j,hj⟩:=cellOf_mem (roomAt_pos (mem_starts.1 h))
 exact ⟨j,hj,hj.div⟩
theorem drop_page {h:Hp} {i:Nat} (hd:Drops h.pages i) {u:Int} (hu:u∈cellStarts h.pages) (hi:u / 16 - 1≠(i:Int)) (w:List Int) (F:Lists) (cd:List Bool):pageAt ⟨w,dropP h.pages i,F,cd⟩ u=pageAt h u:=by
 obtain ⟨j,hj,e⟩:=start_cell hu
 unfold pageAt
 show (dropP h.pages i).getD (u / 16 - 1).toNat default=_
 rw [e,Int.toNat_natCast]
 refine hd.keep (by omega) ?_
 rcases hj.kind with k | k <;> omega
theorem drop_keeps {h:Hp} {i:Nat} {F:Lists} {cs:List Lists} (hs:shapedH h=true) (hd:Drops h.pages i) (hz:∀ u∈cellStarts h.pages,u / 16 - 1=(i:Int)→wordAt h u=0)
  (hl:∀ l∈F :: cs,∀ d:Int,0≤d→d≤2→∀ x∈l.at_ d,freeB h d x=true∧x / 16 - 1≠(i:Int)) (hc:∀ u∈cellStarts h.pages,u / 16 - 1≠(i:Int)→cellB h u=true) (hn:(flats (F :: cs)).Nodup) :
  mayH ⟨h.w,dropP h.pages i,F,h.cards⟩ cs=true∧((∀ u∈cellStarts h.pages,u / 16 - 1≠(i:Int)→wordAt h u≠0∨u∈flats (F :: cs))→wholeH ⟨h.w,dropP h.pages i,F,h.cards⟩ cs=true) ∧
  usedH ⟨h.w,dropP h.pages i,F,h.cards⟩=(cellStarts h.pages).filter fun u=>wordAt h u != 0:=by
 have hw:∀ u,wordAt ⟨h.w,dropP h.pages i,F,h.cards⟩ u=wordAt h u:=fun _=>rfl
 have hst:∀ u,u∈cellStarts (dropP h.pages i)↔u∈cellStarts h.pages∧u / 16 - 1≠(i:Int):=fun u=>by rw [hd.starts,List.mem_filter,decide_eq_true_eq]
 have hm:mayH ⟨h.w,dropP h.pages i,F,h.cards⟩ cs=true:=by
  refine mayH_mk ?_ ?_ ?_ hn
  ·obtain ⟨a1,a2,a3,a4,_⟩:=shapedH_of hs
   unfold shapedH
   rw [a1,hd.may']
   show (true && (true && decide (h.w.length=16 * (dropP h.pages i).length∧h.cards.length=2 * (dropP h.pages i).length)))=true
   rw [hd.len,decide_eq_true ⟨a3,a4⟩]
   rfl
  ·intro l hll
   refine listedB_iff.2 fun d h0 h2 x hx=>?_
   obtain ⟨k1,k2⟩:=hl l hll d h0 h2 x hx
   obtain ⟨r1,r2,r3⟩:=(of_decide_eq_true k1:0 < roomAt h.pages x∧pageAt h x=⟨1,d⟩∧wordAt h x=0)
   have hx:=mem_starts.2 (show roomAt h.pages x≠0 by omega)
   refine decide_eq_true ⟨?_,?_,r3⟩
   ·show 0 < roomAt (dropP h.pages i) x
    rw [hd.room,if_neg k2];exact r1
   ·rw [drop_page hd hx k2];exact r2
  ·intro u hu
   obtain ⟨u1,u2⟩:=(hst u).1 hu
   have:=hc u u1 u2
   unfold cellB at this ⊢
   rw [drop_page hd u1 u2,hw]
   exact this
 refine ⟨hm,fun hwh=>?_,?_⟩
 ·unfold wholeH
  rw [hm,Bool.true_and,List.all_eq_true]
  intro u hu
  obtain ⟨u1,u2⟩:=(hst u).1 hu
  rw [hw,Bool.or_eq_true]
  rcases hwh u u1 u2 with k | k
  ·exact .inl (by simpa using k)
  ·exact .inr (List.contains_iff_mem.2 k)
 ·rw [usedH_eq (may_no hm)]
  show (cellStarts (dropP h.pages i)).filter (fun u=>wordAt h u != 0)=_
  rw [hd.starts,List.filter_filter]
  apply List.filter_congr
  intro u hu
  by_cases e:u / 16 - 1=(i:Int)
  ·rw [hz u hu e];rfl
  ·rw [decide_eq_true e,Bool.and_true]
structure Freed (g k:Hp) (a:Int) (cs:List Lists):Prop where
 may:mayH k cs=true
 whole:wholeH g cs=true→wholeH k cs=true
 used:usedH k=(usedH g).filter fun u=>decide (u≠a)
 cards:k.cards=g.cards
 wlen:k.w.length=g.w.length
 plen:k.pages.length=g.pages.length
 word:∀ u,u≠a→roomAt g.pages u≠0→∀ f,0≤f→f < roomAt g.pages u→wordAt k (u+f)=wordAt g (u+f)
 room:∀ u,roomAt k.pages u≠0→roomAt k.pages u=roomAt g.pages u
 starts:(cellStarts k.pages).Sublist (cellStarts g.pages)
theorem head_word {g:Hp} {cs:List Lists} (hm:mayH g cs=true) {a:Int} (h:headE g a=0):wordAt g a≠0:=by
 have:=mem_usedH.2 h
 rw [usedH_eq (may_no hm),List.mem_filter] at this
 simpa using this.2
theorem used_drop {g:Hp} {cs:List Lists} (hm:mayH g cs=true) {a:Int} (h:headE g a=0) (fr:Lists) (cd:List Bool) :
  (cellStarts g.pages).filter (fun u=>wordAt ⟨freeW g a,g.pages,fr,cd⟩ u != 0)=(usedH g).filter fun u=>decide (u≠a):=by
 rw [usedH_eq (may_no hm),List.filter_filter]
 apply List.filter_congr
 intro u hu
 by_cases e:u=a
 ·subst e
  rw [word_self h,decide_eq_false (fun k=>k rfl)];rfl
 ·rw [word_at0 h (mem_starts.1 hu) e,decide_eq_true e,Bool.true_and]
theorem freed_large {g:Hp} {cs:List Lists} (hm:mayH g cs=true) {a:Int} (h:headE g a=0) (hk:(g.pages.getD (pgI a).toNat default).kind=2) :
  Freed g ⟨freeW g a,dropP g.pages (pgI a).toNat,g.free,g.cards⟩ a cs:=by
 obtain ⟨m1,m2,m3,m4⟩:=mayH_of hm
 obtain ⟨hn0,hd⟩:=head_drops h
 have ei:((pgI a).toNat:Int)=pgI a:=by omega
 have hr:=(headE_of h).2.1
 have hpg:∀ u∈cellStarts g.pages,u / 16 - 1=((pgI a).toNat:Int)→u=a:=by
  intro u hu e
  obtain ⟨j,hj,ej⟩:=start_cell hu
  obtain ⟨j',hj',ej'⟩:=start_cell (mem_starts.2 hr)
  have e2:j=(pgI a).toNat:=by omega
  have e3:j' = (pgI a).toNat:=by unfold pgI at *;omega
  subst e2
  rw [e3] at hj'
  have k1:u=16 * (((pgI a).toNat:Int)+1):=by rcases hj.kind with k | k;omega;exact k.2.2.2.1
  have k2:a=16 * (((pgI a).toNat:Int)+1):=by rcases hj'.kind with k | k;omega;exact k.2.2.2.1
  omega
 have hst:∀ l∈g.free :: cs,∀ d:Int,0≤d→d≤2→∀ x∈l.at_ d,0 < roomAt g.pages x∧pageAt g x=⟨1,d⟩∧wordAt g x=0:=fun l hl d h0 h2 x hx=>of_decide_eq_true (listedB_iff.1 (m2 l hl) d h0 h2 x hx)
 have key:=drop_keeps (h:=⟨freeW g a,g.pages,g.free,g.cards⟩) (i:=(pgI a).toNat) (F:=g.free) (cs:=cs) ?_ hd ?_ ?_ ?_ m4
 ·obtain ⟨k1,k2,k3⟩:=key
  refine ⟨k1,fun hwh=>k2 fun u hu e=>?_,k3.trans (used_drop hm h _ _),rfl,freeW_len h,hd.len,fun u hne hu f f0 f1=>word_at h hu hne ⟨f0,f1⟩ _ _ _,fun u hu=>?_,?_⟩
  ·have hne:u≠a:=fun k=>by subst k;exact e (by unfold pgI;unfold pgI at ei;omega)
   rw [word_at0 h (mem_starts.1 hu) hne]
   unfold wholeH at hwh
   rw [hm,Bool.true_and,List.all_eq_true] at hwh
   have:=hwh u hu
   rw [Bool.or_eq_true] at this
   rcases this with k | k
   ·exact .inl (by simpa using k)
   ·exact .inr (List.contains_iff_mem.1 k)
  ·have:=hd.room u
   show roomAt (dropP g.pages (pgI a).toNat) u=_
   rw [this]
   split
   ·rename_i e
    exact absurd (show roomAt (dropP g.pages (pgI a).toNat) u=0 by rw [this,if_pos e]) hu
   ·rfl
  ·show (cellStarts (dropP g.pages (pgI a).toNat)).Sublist _
   rw [hd.starts];exact List.filter_sublist
 ·obtain ⟨a1,a2,a3,a4,_⟩:=shapedH_of m1
  have e:(freeW g a).length=g.w.length:=freeW_len h
  unfold shapedH
  show (mayW (freeW g a) && (mayP g.pages && decide ((freeW g a).length=16 * g.pages.length∧g.cards.length=2 * g.pages.length)))=true
  unfold mayW at a1 ⊢
  rw [e,a1,a2,decide_eq_true ⟨a3,a4⟩];rfl
 ·intro u hu e
  rw [hpg u hu e];exact word_self h _ _ _
 ·intro l hl d h0 h2 x hx
  obtain ⟨r1,r2,r3⟩:=hst l hl d h0 h2 x hx
  have hne:x≠a:=fun k=>head_word hm h (by rw [← k];exact r3)
  refine ⟨decide_eq_true ⟨r1,r2,?_⟩,fun e=>hne (hpg x (mem_starts.2 (by omega)) e)⟩
  rw [word_at0 h (by omega) hne];exact r3
 ·intro u hu e
  have hne:u≠a:=fun k=>by subst k;exact e (by unfold pgI;unfold pgI at ei;omega)
  have:=m3 u hu
  unfold cellB at this ⊢
  rw [word_at0 h (mem_starts.1 hu) hne]
  exact this
end Go.Abs
namespace Go.Abs
set_option maxRecDepth 8000
abbrev pushedH (g:Hp) (a:Int):Hp:=pushH { g with w:=freeW g a } (pgI a) a
theorem freed_push {g:Hp} {cs:List Lists} (hm:mayH g cs=true) {a:Int} (h:headE g a=0) (hk:(g.pages.getD (pgI a).toNat default).kind=1):Freed g (pushedH g a) a cs:=by
 obtain ⟨m1,m2,m3,m4⟩:=mayH_of hm
 obtain ⟨hn0,hd⟩:=head_drops h
 have hr:=(headE_of h).2.1
 have hc:=((mayP_ok hd.may).1 _ hd.lt).1 hk
 have hp:pageAt g a=⟨1,(g.pages.getD (pgI a).toNat default).arg⟩:=by
  show g.pages.getD (pgI a).toNat default=_
  generalize g.pages.getD (pgI a).toNat default=p at hk
  cases p;cases hk;rfl
 have hst:∀ l∈g.free :: cs,∀ d:Int,0≤d→d≤2→∀ x∈l.at_ d,0 < roomAt g.pages x∧pageAt g x=⟨1,d⟩∧wordAt g x=0:=fun l hl d h0 h2 x hx=>of_decide_eq_true (listedB_iff.1 (m2 l hl) d h0 h2 x hx)
 have hkeep:∀ l∈g.free :: cs,∀ d:Int,0≤d→d≤2→∀ x∈l.at_ d,freeB (pushedH g a) d x=true:=by
  intro l hl d h0 h2 x hx
  obtain ⟨r1,r2,r3⟩:=hst l hl d h0 h2 x hx
  have hne:x≠a:=fun k=>head_word hm h (by rw [← k];exact r3)
  refine decide_eq_true ⟨r1,r2,?_⟩
  exact (word_at0 h (by omega) hne _ _ _).trans r3
 have hperm:(flats ((pushedH g a).free :: cs)).Perm (a :: flats (g.free :: cs)):=by
  show ((g.free.set_ _ (g.free.at_ _ ++ [a])).flat ++ flats cs).Perm (a :: (g.free.flat ++ flats cs))
  exact (set_perm hc).append_right _
 have hna:a ∉ flats (g.free :: cs):=by
  intro k
  obtain ⟨l,hl,hx⟩:=mem_flats.1 k
  exact head_word hm h (listed_free (m2 l hl) hx).2
 have hmay:mayH (pushedH g a) cs=true:=by
  refine mayH_mk ?_ ?_ ?_ (hperm.nodup_iff.2 (List.nodup_cons.2 ⟨hna,m4⟩))
  ·obtain ⟨a1,a2,a3,a4,_⟩:=shapedH_of m1
   have e:(freeW g a).length=g.w.length:=freeW_len h
   unfold shapedH
   show (mayW (freeW g a) && (mayP g.pages && decide ((freeW g a).length=16 * g.pages.length∧g.cards.length=2 * g.pages.length)))=true
   unfold mayW at a1 ⊢
   rw [e,a1,a2,decide_eq_true ⟨a3,a4⟩];rfl
  ·intro l hl
   rcases List.mem_cons.1 hl with rfl | hl
   ·refine listedB_iff.2 fun d h0 h2 x hx=>?_
    have hx:x∈(g.free.set_ (g.pages.getD (pgI a).toNat default).arg (g.free.at_ (g.pages.getD (pgI a).toNat default).arg ++ [a])).at_ d:=hx
    rw [at_set hc ⟨h0,h2⟩] at hx
    split at hx
    ·rename_i e
     rcases List.mem_append.1 hx with hx | hx
     ·exact hkeep g.free (List.mem_cons_self ..) d h0 h2 x (by rw [e];exact hx)
     ·rw [List.mem_singleton.1 hx]
      exact decide_eq_true ⟨by have:=roomAt_nonneg g.pages a;show 0 < roomAt g.pages a;omega,by rw [e];exact hp,word_self h _ _ _⟩
    ·exact hkeep g.free (List.mem_cons_self ..) d h0 h2 x hx
   ·exact listedB_iff.2 fun d h0 h2 x hx=>hkeep l (List.mem_cons_of_mem _ hl) d h0 h2 x hx
  ·intro u hu
   have hu:u∈cellStarts g.pages:=hu
   by_cases e:u=a
   ·subst e
    unfold cellB
    rw [show wordAt (pushedH g u) u=0 from word_self h _ _ _,show pageAt (pushedH g u) u=pageAt g u from rfl,hp,show isHd 0=true by decide,show (unp 0).used=false by decide]
    rfl
   ·have:=m3 u hu
    unfold cellB at this ⊢
    rw [show wordAt (pushedH g a) u=wordAt g u from word_at0 h (mem_starts.1 hu) e _ _ _]
    exact this
 refine ⟨hmay,fun hwh=>?_,?_,rfl,freeW_len h,rfl,fun u hne hu f f0 f1=>word_at h hu hne ⟨f0,f1⟩ _ _ _,fun u hu=>rfl,List.Sublist.refl _⟩
 ·unfold wholeH
  rw [hmay,Bool.true_and,List.all_eq_true]
  intro u hu
  have hu:u∈cellStarts g.pages:=hu
  rw [Bool.or_eq_true]
  by_cases e:u=a
  ·exact .inr (List.contains_iff_mem.2 (hperm.mem_iff.2 (by rw [e];exact List.mem_cons_self ..)))
  ·rw [show wordAt (pushedH g a) u=wordAt g u from word_at0 h (mem_starts.1 hu) e _ _ _]
   unfold wholeH at hwh
   rw [hm,Bool.true_and,List.all_eq_true] at hwh
   have:=hwh u hu
   rw [Bool.or_eq_true] at this
   rcases this with k | k
   ·exact .inl k
   ·exact .inr (List.contains_iff_mem.2 (hperm.mem_iff.2 (List.mem_cons_of_mem _ (List.contains_iff_mem.1 k))))
 ·rw [usedH_eq (may_no hmay)]
  exact used_drop hm h _ _
theorem outs_eq (g:Hp) (i:Int):outsH g i=(g.free.at_ (g.pages.getD i.toNat default).arg).filter (inP (16 * (i+1)) (16 * (i+1)+16)):=by
 unfold outsH outOf;rw [List.take_length]
theorem stays_eq (g:Hp) (i:Int):staysH g i=(g.free.at_ (g.pages.getD i.toNat default).arg).filter fun x=>!inP (16 * (i+1)) (16 * (i+1)+16) x:=by
 unfold staysH stayOf;rw [List.take_length]
theorem inP_page {i x:Int}:inP (16 * (i+1)) (16 * (i+1)+16) x=decide (x / 16 - 1=i):=by
 unfold inP
 rw [← Bool.decide_and]
 exact decide_eq_decide.2 (by omega)
def onPage (p:Page) (i:Int):List Int:=(List.range (clsN p.arg).toNat).map fun k:Nat=>16 * (i+1)+(k:Int) * clsW p.arg
theorem mem_onPage {l:List Page} {u:Int} {i:Nat} (hu:u∈cellStarts l) (e:u / 16 - 1=(i:Int)) (hk:(l.getD i default).kind=1):u∈onPage (l.getD i default) i:=by
 obtain ⟨j,hj,ej⟩:=start_cell hu
 have:j=i:=by omega
 subst this
 obtain ⟨hmp,_⟩:=cellOf_mem (roomAt_pos (mem_starts.1 hu))
 rcases mem_cellsOn ((mayP_ok hmp).1 j hj.lt) hj.mem with ⟨_,_,k,k1,k2⟩ | ⟨k,_⟩
 ·have k2:u=16 * ((j:Int)+1)+(k:Int) * clsW (l.getD j default).arg:=k2
  refine List.mem_map.2 ⟨k,List.mem_range.2 (by omega),k2.symm⟩
 ·omega
theorem outs_all {g:Hp} {cs:List Lists} (hm:mayH g cs=true) {i:Int} (h0:0≤i) (hd:Drops g.pages i.toNat) (hk:(g.pages.getD i.toNat default).kind=1) :
  ((outsH g i).length:Int)≤clsN (g.pages.getD i.toNat default).arg∧(((outsH g i).length:Int)=clsN (g.pages.getD i.toNat default).arg→∀ u∈cellStarts g.pages,u / 16 - 1=i→u∈outsH g i):=by
 obtain ⟨m1,m2,m3,m4⟩:=mayH_of hm
 have hc:=((mayP_ok hd.may).1 _ hd.lt).1 hk
 have ei:((i.toNat:Nat):Int)=i:=by omega
 have hN:=clsWN hc
 have hlen:((onPage (g.pages.getD i.toNat default) i).length:Int)=clsN (g.pages.getD i.toNat default).arg:=by
  unfold onPage;rw [List.length_map,List.length_range];rcases hN with k | k | k <;> omega
 have hnd:(outsH g i).Nodup:=by
  rw [outs_eq]
  apply List.Nodup.sublist List.filter_sublist
  have e:flats (g.free :: cs)=g.free.flat ++ flats cs:=rfl
  rw [e] at m4
  have:=(List.nodup_append.1 m4).1
  have hc' : (g.pages.getD i.toNat default).arg=0∨(g.pages.getD i.toNat default).arg=1∨(g.pages.getD i.toNat default).arg=2:=by omega
  unfold Lists.flat at this
  rcases hc' with e | e | e <;> rw [e]
  ·exact (List.nodup_append.1 (List.nodup_append.1 this).1).1
  ·exact (List.nodup_append.1 (List.nodup_append.1 this).1).2.1
  ·exact (List.nodup_append.1 this).2.1
 have hsub:∀ x∈outsH g i,x∈onPage (g.pages.getD i.toNat default) i:=by
  intro x hx
  rw [outs_eq,List.mem_filter,inP_page,decide_eq_true_eq] at hx
  obtain ⟨r1,_⟩:=(of_decide_eq_true (listedB_iff.1 (m2 g.free (List.mem_cons_self ..)) _ hc.1 hc.2 x hx.1):0 < roomAt g.pages x∧_)
  have:=mem_onPage (i:=i.toNat) (mem_starts.2 (show roomAt g.pages x≠0 by omega)) (by omega) hk
  rw [ei] at this;exact this
 have hle:=nodup_le hnd hsub
 refine ⟨by omega,fun he u hu e=>?_⟩
 refine pigeon hnd hsub (by omega) u ?_
 have:=mem_onPage (i:=i.toNat) hu (by omega) hk
 rw [ei] at this;exact this
theorem back_keeps {g:Hp} {cs:List Lists} (hm:mayH g cs=true) {i:Int} (h0:0≤i) (hd:Drops g.pages i.toNat) (hk:(g.pages.getD i.toNat default).kind=1) :
  mayH (backH g i) cs=true∧(wholeH g cs=true→wholeH (backH g i) cs=true)∧usedH (backH g i)=usedH g∧(backH g i).cards=g.cards∧(backH g i).w=g.w∧(backH g i).pages.length=g.pages.length∧(∀ u,roomAt (backH g i).pages u≠0→roomAt (backH g i).pages u=roomAt g.pages u)∧(cellStarts (backH g i).pages).Sublist (cellStarts g.pages):=by
 unfold backH
 split
 case isFalse=>exact ⟨hm,id,rfl,rfl,rfl,rfl,fun _ _=>rfl,List.Sublist.refl _⟩
 rename_i hn
 obtain ⟨m1,m2,m3,m4⟩:=mayH_of hm
 have hc:=((mayP_ok hd.may).1 _ hd.lt).1 hk
 have ei:((i.toNat:Nat):Int)=i:=by omega
 have hall:=(outs_all hm h0 hd hk).2 hn
 have hst:∀ l∈g.free :: cs,∀ d:Int,0≤d→d≤2→∀ x∈l.at_ d,0 < roomAt g.pages x∧pageAt g x=⟨1,d⟩∧wordAt g x=0:=fun l hl d h0 h2 x hx=>of_decide_eq_true (listedB_iff.1 (m2 l hl) d h0 h2 x hx)
 have harg:∀ l∈g.free :: cs,∀ d:Int,0≤d→d≤2→∀ x∈l.at_ d,x / 16 - 1=i→d=(g.pages.getD i.toNat default).arg:=by
  intro l hl d d0 d2 x hx e
  obtain ⟨_,r2,_⟩:=hst l hl d d0 d2 x hx
  unfold pageAt at r2
  rw [e] at r2
  rw [r2]
 have hof:∀ u∈cellStarts g.pages,u / 16 - 1=i→u∈g.free.at_ (g.pages.getD i.toNat default).arg∧u∈g.free.flat:=by
  intro u hu e
  have:=hall u hu e
  rw [outs_eq,List.mem_filter] at this
  exact ⟨this.1,mem_flat.2 ⟨_,hc.1,hc.2,this.1⟩⟩
 have hsub:(flats (g.free.set_ (g.pages.getD i.toNat default).arg (staysH g i) :: cs)).Sublist (flats (g.free :: cs)):=by
  show ((g.free.set_ _ (staysH g i)).flat ++ flats cs).Sublist (g.free.flat ++ flats cs)
  exact (set_sub hc (by rw [stays_eq];exact List.filter_sublist)).append (List.Sublist.refl _)
 have key:=drop_keeps (h:=g) (i:=i.toNat) (F:=g.free.set_ (g.pages.getD i.toNat default).arg (staysH g i)) (cs:=cs) m1 hd ?_ ?_ (fun u hu _=>m3 u hu) (m4.sublist hsub)
 ·obtain ⟨k1,k2,k3⟩:=key
  refine ⟨k1,fun hwh=>k2 fun u hu e=>?_,k3.trans (usedH_eq (may_no hm)).symm,rfl,rfl,hd.len,fun u hu=>?_,?_⟩
  ·unfold wholeH at hwh
   rw [hm,Bool.true_and,List.all_eq_true] at hwh
   have:=hwh u hu
   rw [Bool.or_eq_true] at this
   rcases this with k | k
   ·exact .inl (by simpa using k)
   ·refine .inr ?_
    have k:=List.contains_iff_mem.1 k
    have k:u∈g.free.flat ++ flats cs:=k
    show u∈(g.free.set_ _ (staysH g i)).flat ++ flats cs
    rcases List.mem_append.1 k with k | k
    ·refine List.mem_append.2 (.inl ?_)
     obtain ⟨d,d0,d2,hx⟩:=mem_flat.1 k
     refine mem_flat.2 ⟨d,d0,d2,?_⟩
     rw [at_set hc ⟨d0,d2⟩]
     split
     ·rename_i ed
      rw [stays_eq,List.mem_filter]
      exact ⟨by rw [← ed];exact hx,by rw [inP_page,decide_eq_false (by omega)];rfl⟩
     ·exact hx
    ·exact List.mem_append.2 (.inr k)
  ·have:=hd.room u
   show roomAt (dropP g.pages i.toNat) u=_
   rw [this]
   split
   ·rename_i e
    exact absurd (show roomAt (dropP g.pages i.toNat) u=0 by rw [this,if_pos e]) hu
   ·rfl
  ·show (cellStarts (dropP g.pages i.toNat)).Sublist _
   rw [hd.starts];exact List.filter_sublist
 ·intro u hu e
  obtain ⟨l,k⟩:=hof u hu (by omega)
  exact (hst g.free (List.mem_cons_self ..) _ hc.1 hc.2 u l).2.2
 ·intro l hl d d0 d2 x hx
  rcases List.mem_cons.1 hl with rfl | hl
  ·rw [at_set hc ⟨d0,d2⟩] at hx
   split at hx
   ·rename_i ed
    rw [stays_eq,List.mem_filter,inP_page] at hx
    obtain ⟨x1,x2⟩:=hx
    refine ⟨listedB_iff.1 (m2 g.free (List.mem_cons_self ..)) d d0 d2 x (by rw [ed];exact x1),fun e=>?_⟩
    rw [decide_eq_true (by omega)] at x2
    cases x2
   ·rename_i ed
    exact ⟨listedB_iff.1 (m2 g.free (List.mem_cons_self ..)) d d0 d2 x hx,fun e=>ed (harg g.free (List.mem_cons_self ..) d d0 d2 x hx (by omega))⟩
  ·refine ⟨listedB_iff.1 (m2 l (List.mem_cons_of_mem _ hl)) d d0 d2 x hx,fun e=>?_⟩
   have hxs:=mem_starts.2 (show roomAt g.pages x≠0 by have:=(hst l (List.mem_cons_of_mem _ hl) d d0 d2 x hx).1;omega)
   obtain ⟨_,k⟩:=hof x hxs (by omega)
   have e:flats (g.free :: cs)=g.free.flat ++ flats cs:=rfl
   rw [e] at m4
   exact (List.nodup_append.1 m4).2.2 x k x (mem_flats.2 ⟨l,hl,mem_flat.2 ⟨d,d0,d2,hx⟩⟩) rfl
theorem freed {g:Hp} {cs:List Lists} (hm:mayH g cs=true) {a:Int} (h:headE g a=0):Freed g (freeH g a) a cs:=by
 unfold freeH
 rw [if_pos h]
 split
 ·rename_i hk
  exact freed_large hm h hk
 ·rename_i hk
  obtain ⟨hn0,hd⟩:=head_drops h
  have hk1:=hd.kind.resolve_right hk
  have f:=freed_push hm h hk1
  obtain ⟨b1,b2,b3,b4,b5,b6,b7,b8⟩:=back_keeps (g:=pushedH g a) f.may hn0 hd hk1
  exact ⟨b1,fun k=>b2 (f.whole k),b3.trans f.used,b4.trans f.cards,(congrArg List.length b5).trans f.wlen,b6.trans f.plen,fun u hne hu x x0 x1=>(show wordAt _ _=wordAt (pushedH g a) (u+x) by unfold wordAt;rw [b5]).trans (f.word u hne hu x x0 x1),fun u hu=>b7 u hu,b8⟩
end Go.Abs
namespace Go.Abs
open Go.Proofs Go.Proofs.YtejnngjfjaeiiaaGreatDoor
set_option maxRecDepth 8000
def rkV (g:Hp):List CV:=g.enc.map .d
theorem begun_spec (g:Hp) (hs:g.small):Spec X 232 [] [g.tv] (Ret [(0,.vars (rkV g))] (.c (.ptr 0 0 0))):=by
 refine spec_go X_ok Tryz.f232 (by kernel_rfl) (by kernel_rfl) (by kernel_rfl) fun hb hH=>⟨rfl,?_⟩
 obtain ⟨h1,h2,h3,h4,h5,h6⟩:=hs
 show ADCall _ _ _ _ _ _
 refine .mk _ _ (CloneInts_spec g.w h1) rfl ?_
 show ADCall _ _ _ _ _ _
 refine .mk _ _ (ClonePages_spec g.pages h2) rfl ?_
 show ADCall _ _ _ _ _ _
 refine .mk _ _ (CloneBools_spec g.cards h3) rfl ?_
 show ∃ n,_
 refine ⟨4,?_⟩
 show ALoop _ _ _ _
 refine .next ?_
 show ABr _ _ _
 refine ⟨fun _=>?_,fun h=>absurd h (by decide)⟩
 show AOb _ _
 refine ⟨by decide,?_⟩
 show ACall _ _ _ _ _ _
 refine call_ret (CloneInts_spec g.free.l0 h4) rfl ?_
 show AOb _ _
 refine ⟨by decide,?_⟩
 show ALoop _ _ _ _
 refine .next ?_
 show ABr _ _ _
 refine ⟨fun _=>?_,fun h=>absurd h (by decide)⟩
 show AOb _ _
 refine ⟨by decide,?_⟩
 show ACall _ _ _ _ _ _
 refine call_ret (CloneInts_spec g.free.l1 h5) rfl ?_
 show AOb _ _
 refine ⟨by decide,?_⟩
 show ALoop _ _ _ _
 refine .next ?_
 show ABr _ _ _
 refine ⟨fun _=>?_,fun h=>absurd h (by decide)⟩
 show AOb _ _
 refine ⟨by decide,?_⟩
 show ACall _ _ _ _ _ _
 refine call_ret (CloneInts_spec g.free.l2 h6) rfl ?_
 show AOb _ _
 refine ⟨by decide,?_⟩
 show ALoop _ _ _ _
 refine .next ?_
 show ABr _ _ _
 refine ⟨fun h=>absurd h (by decide),fun _=>?_⟩
 show ARet _ _ _
 exact ⟨[(_,0)],[(0,.vars (rkV g))],[.c (.ptr 0 0 0)],.cons _ _ _ _ (.c _ _ (.ptr1 _ _ _ _)) .nil,.old 0 _ _ _ _ rfl rfl (.vars _ _ (LeL_refl rfl)) .nil,rfl,rfl,rfl⟩
theorem partN_own (w:List Int) (a n:Int) (hw:mayW w=true) (ha:16≤a∧0 < n∧a+n≤16+w.length):Spec X 187 [(16,.data .int w)] [.c (.own 16),.int a,.int n] (fun H r=>H=[(16,.data .int w)]∧r = .tup [.c (.view 16 (a - 16).toNat n.toNat),.int 0]):=by
 refine spec_go X_ok Tryz.f187 (by kernel_rfl) (by kernel_rfl) (by kernel_rfl) fun hb hH=>⟨rfl,?_⟩
 show ACall _ _ _ _ _ _
 refine call_ret (aMay_spec w) rfl ?_
 rw [hw]
 show ABr (!true) _ _
 show ABr _ _ _
 refine ⟨fun h=>absurd h (by decide),fun _=>?_⟩
 show ABr (decide (n < 0)) _ _
 refine ⟨fun h=>absurd (of_decide_eq_true h) (by omega),fun _=>?_⟩
 have h1:w.length≤1024:=by have:=of_decide_eq_true hw;omega
 have e1:IntKind.i64.wrap (a - 16)=a - 16:=wrap64 (by omega) (by omega)
 have e2:IntKind.i64.wrap ((w.length:Int) - (a - 16))=w.length - (a - 16):=wrap64 (by omega) (by omega)
 show ABr (bif decide (n > 0) then (bif (bif decide (a < 16) then true else decide (IntKind.i64.wrap (a - 16)≥(w.length:Int))) then true else decide (n > IntKind.i64.wrap ((w.length:Int) - IntKind.i64.wrap (a - 16)))) else false) _ _
 rw [e1,e2]
 refine ⟨fun h=>?_,fun _=>?_⟩
 ·exfalso
  have g1:decide (a < 16)=false:=decide_eq_false (by omega)
  have g2:decide (a - 16≥(w.length:Int))=false:=decide_eq_false (by omega)
  have g3:decide (n > (w.length:Int) - (a - 16))=false:=decide_eq_false (by omega)
  rw [g1,g2,g3] at h
  cases hn:decide (n > 0) <;> rw [hn] at h <;> exact absurd h (by decide)
 ·show ABr (decide (n=0)) _ _
  refine ⟨fun h=>absurd (of_decide_eq_true h) (by omega),fun _=>?_⟩
  show AOb ((0:Int)≤IntKind.i64.wrap (a - 16)∧IntKind.i64.wrap (a - 16)≤(w.length:Int)) _
  rw [e1]
  refine ⟨by omega,?_⟩
  show AOb ((0:Int)≤n∧n≤n∧n≤((((w.length:Int) - (a - 16)).toNat:Nat):Int)) _
  refine ⟨by omega,?_⟩
  show ARet _ _ _
  exact ⟨[(16,16)],[(16,.data .int w)],[.c (.view 16 (a - 16).toNat n.toNat),.int 0],.cons _ _ _ _ (.view_eq2 (o:=(a - 16).toNat+0) (n:=(n - 0).toNat) (by simp [nmOf]) rfl (by omega)) (.cons _ _ _ _ .same .nil),.old 16 16 _ _ _ rfl rfl (.data_eq rfl) .nil,rfl,rfl,rfl⟩
theorem aZero_spec (w:List Int) (a n:Int) (hw:mayW w=true) (ha:16≤a∧0 < n∧a+n≤16+w.length):Spec X 233 [] [.c (.d (.sl .int w)),.int a,.int n] (Ret [] (.tup [.c (.d (.sl .int (splice w (a - 16).toNat (List.replicate n.toNat (0:Int))))),.int 0])):=by
 refine spec_go X_ok Tryz.f233 (by kernel_rfl) (by kernel_rfl) (by kernel_rfl) fun hb hH=>⟨rfl,?_⟩
 have h1:16≤w.length∧w.length≤1024:=by have:=of_decide_eq_true hw;omega
 show ACall _ _ _ _ _ _
 refine .mk _ (CloneIntsOwn_spec w (by unfold most;omega) (by intro e;subst e;simp at h1)) fun H r ⟨eH,er⟩ _ _=>⟨.inl rfl,?_⟩
 subst eH er
 refine .hand [(_,16)] [(16,.data .int w)] [.c (.own 16),.int a,.int n] _ (.cons _ _ _ _ (.c _ _ (.own1 _ _)) (.cons _ _ _ _ .same (.cons _ _ _ _ .same .nil))) (.old 16 _ _ _ _ rfl rfl (.data_eq rfl) .nil) rfl (partN_own w a n hw ha) ?_
 rintro H r ⟨rfl,rfl⟩ _ _
 refine ⟨rfl,.inl rfl,?_⟩
 show ABr _ _ _
 refine ⟨fun h=>absurd h (by decide),fun _=>?_⟩
 show ARet _ _ _
 exact ⟨[],[],[.c (.d (.sl .int (splice w (a - 16).toNat (List.replicate n.toNat (0:Int))))),.int 0],.cons _ _ _ _ (.frz (k:=.int) (l:=splice w (a - 16).toNat (List.replicate n.toNat (0:Int))) rfl rfl) (.cons _ _ _ _ .same .nil),.nil,rfl,rfl,rfl⟩
theorem ClonePagesOwn_spec (l:List Page) (h:l.length≤most) (hne:l≠[]):Spec X 79 [] [.c (.d (.sl .page l))] (Ret [(0,.data .page l)] (.c (.own 0))):=by
 refine spec_go X_ok Tryz.f79 (by kernel_rfl) (by kernel_rfl) (by kernel_rfl) fun hb _=>⟨rfl,?_⟩
 intro b (hnil:b=true→l=[])
 show ABr _ _ _
 refine ⟨fun hb=>absurd (hnil hb) hne,fun hb=>?_⟩
 show AOb (0+l.length≤most) _
 refine ⟨by omega,?_⟩
 show ARet _ _ _
 exact ⟨[(_,0)],[(0,.data .page l)],[.c (.own 0)],.cons _ _ _ _ (.c _ _ (.own1 _ _)) .nil,.old 0 _ _ _ _ rfl rfl (.data_eq rfl) .nil,rfl,rfl,rfl⟩
theorem pput_spec (l o:List Page) (i:Int) (hm:mayP l=true) (h0:0≤i) (h1:i < (l.length:Int)):Spec X 274 [] [.c (.d (.sl .page l)),.int i,.c (.d (.sl .page o))] (Ret [] (.c (.d (.sl .page (putP l i.toNat o))))):=by
 refine spec_go X_ok Tryz.f274 (by kernel_rfl) (by kernel_rfl) (by kernel_rfl) fun hb hH=>⟨rfl,?_⟩
 have hb:=hb (.c (.d (.sl .page l))) (by simp)
 have hl:l.length≤maxN:=hb.1
 show ACall _ _ _ _ _ _
 refine .mk _ (ClonePagesOwn_spec l (by have:=(mayP_ok hm).2.2;unfold most;omega) (by intro e;subst e;simp at h1;omega)) fun H r ⟨eH,er⟩ _ _=>⟨.inl rfl,?_⟩
 subst eH er
 show AOb ((0:Int)≤i∧i≤(l.length:Int)) _
 refine ⟨by omega,?_⟩
 show ARet _ _ _
 have e:splice l i.toNat (o.take ((l.length:Int) - i).toNat)=putP l i.toNat o:=by unfold putP;rw [show ((l.length:Int) - i).toNat=l.length - i.toNat by omega]
 exact ⟨[],[],[.c (.d (.sl .page (putP l i.toNat o)))],.cons _ _ _ _ (.c _ _ (.frz_eq (k:=.page) (l:=splice l i.toNat (o.take ((l.length:Int) - i).toNat)) rfl e)) .nil,.nil,rfl,rfl,rfl⟩
theorem drops_fit {l:List Page} {i:Nat} (h:Drops l i):pageFits (l.getD i default)=true:=by
 have hp:=(mayP_ok h.may).1 i h.lt
 rcases h.kind with hk | hk
 ·have:=hp.1 hk
  exact decide_eq_true (.inr (.inl ⟨hk,this⟩))
 ·have:=hp.2 hk
  exact decide_eq_true (.inr (.inr ⟨hk,this⟩))
theorem pDrop_spec (l:List Page) (i:Int) (h0:0≤i) (hd:Drops l i.toNat):Spec X 262 [] [.c (.d (.sl .page l)),.int i] (Ret [] (.tup [.c (.d (.sl .page (dropP l i.toNat))),.int 0])):=by
 refine spec_go X_ok Tryz.f262 (by kernel_rfl) (by kernel_rfl) (by kernel_rfl) fun hb hH=>⟨rfl,?_⟩
 have hlt:=hd.lt
 show ACall _ _ _ _ _ _
 refine call_ret (pMay_spec l) rfl ?_
 rw [hd.may]
 show ABr (!true) _ _
 show ABr _ _ _
 refine ⟨fun h=>absurd h (by decide),fun _=>?_⟩
 show ABr (decide (i < 0)) _ _
 rw [decide_eq_false (by omega)]
 show ABr _ _ _
 refine ⟨fun h=>absurd h (by decide),fun _=>?_⟩
 show ABr (decide (i≥(l.length:Int))) _ _
 rw [decide_eq_false (by omega)]
 show ABr _ _ _
 refine ⟨fun h=>absurd h (by decide),fun _=>?_⟩
 show AOb ((0:Int)≤i∧i < (l.length:Int)) _
 refine ⟨by omega,?_⟩
 have hk:=hd.kind
 have hf:=drops_fit hd
 obtain ⟨a1,a2,_,_⟩:=hd.all
 show ABr ((l.getD i.toNat default).kind == 0) _ _
 rw [show ((l.getD i.toNat default).kind == 0)=false by simp only [beq_eq_false_iff_ne];omega]
 show ABr _ _ _
 refine ⟨fun h=>absurd h (by decide),fun _=>?_⟩
 show AOb ((0:Int)≤i∧i < (l.length:Int)) _
 refine ⟨by omega,?_⟩
 show ABr ((l.getD i.toNat default).kind == 3) _ _
 rw [show ((l.getD i.toNat default).kind == 3)=false by simp only [beq_eq_false_iff_ne];omega]
 show ABr _ _ _
 refine ⟨fun h=>absurd h (by decide),fun _=>?_⟩
 show AOb ((0:Int)≤i∧i < (l.length:Int)) _
 refine ⟨by omega,?_⟩
 show ABr ((l.getD i.toNat default).kind == 2) _ _
 unfold dropP
 unfold sizeP at a1 a2 ⊢
 by_cases h2:(l.getD i.toNat default).kind=2
 ·rw [if_pos h2] at a1 a2 ⊢
  rw [show ((l.getD i.toNat default).kind == 2)=true by simp only [beq_iff_eq];exact h2]
  show ABr _ _ _
  refine ⟨fun _=>?_,fun h=>absurd h (by decide)⟩
  show AOb ((0:Int)≤i∧i < (l.length:Int)) _
  refine ⟨by omega,?_⟩
  have hfk:=(of_decide_eq_true hf:_)
  have hln:=(mayP_ok hd.may).2.2
  show AOb ((0:Int)≤(l.getD i.toNat default).arg∧(l.getD i.toNat default).arg≤(l.getD i.toNat default).arg∧(l.getD i.toNat default).arg≤((most:Nat):Int)) _
  refine ⟨by unfold most;omega,?_⟩
  show ACall _ _ _ _ _ _
  refine .frz [1440] [] [.c (.d (.sl .page l)),.int i,.c (.d (.sl .page (List.replicate (l.getD i.toNat default).arg.toNat ⟨0,0⟩)))] _ rfl .nil (.cons _ _ _ _ (.c _ _ (.same _)) (.cons _ _ _ _ (.c _ _ (.same _)) (.cons _ _ _ _ (.c _ _ (.frz _ _ rfl)) .nil))) rfl (pput_spec l (List.replicate (l.getD i.toNat default).arg.toNat ⟨0,0⟩) i hd.may h0 (by omega)) ?_
  rintro H r ⟨rfl,rfl⟩ _ _
  show ARet _ _ _
  exact ret_d rfl ⟨rfl,rfl⟩
 ·rw [if_neg h2] at a1 a2 ⊢
  rw [show ((l.getD i.toNat default).kind == 2)=false by simp only [beq_eq_false_iff_ne];exact h2]
  show ABr _ _ _
  refine ⟨fun h=>absurd h (by decide),fun _=>?_⟩
  show AOb ((0:Int)≤(1:Int)∧(1:Int)≤(1:Int)∧(1:Int)≤((most:Nat):Int)) _
  refine ⟨by unfold most;omega,?_⟩
  show ACall _ _ _ _ _ _
  refine .frz [1248] [] [.c (.d (.sl .page l)),.int i,.c (.d (.sl .page (List.replicate 1 ⟨0,0⟩)))] _ rfl .nil (.cons _ _ _ _ (.c _ _ (.same _)) (.cons _ _ _ _ (.c _ _ (.same _)) (.cons _ _ _ _ (.c _ _ (.frz _ _ rfl)) .nil))) rfl (pput_spec l (List.replicate 1 ⟨0,0⟩) i hd.may h0 (by omega)) ?_
  rintro H r ⟨rfl,rfl⟩ _ _
  show ARet _ _ _
  exact ret_d rfl ⟨rfl,rfl⟩
theorem wdrop_spec (g:Hp) (i:Int) (h0:0≤i) (hd:Drops g.pages i.toNat):Spec X 237 [(16,.vars (rkV g))] [.c (.ptr 16 0 0),.int i] (fun H r=>H=[(16,.vars (rkV { g with pages:=dropP g.pages i.toNat }))]∧r = .tup []):=by
 refine spec_go X_ok Tryz.f237 (by kernel_rfl) (by kernel_rfl) (by kernel_rfl) fun hb hH=>⟨rfl,?_⟩
 show ACall _ _ _ _ _ _
 refine call_ret (pDrop_spec g.pages i h0 hd) rfl ?_
 show ARet _ _ _
 exact ⟨[(16,16)],[(16,.vars (rkV { g with pages:=dropP g.pages i.toNat }))],[],.nil,.old 16 16 _ _ _ rfl rfl (.vars _ _ (LeL_refl rfl)) .nil,rfl,rfl,rfl⟩
theorem free1_spec (g:Hp) (i a:Int) (h0:0≤i) (hd:Drops g.pages i.toNat):Spec X 236 [(16,.vars (rkV g))] [.c (.ptr 16 0 0),.int i,.int a] (fun H r=>H=[(16,.vars (rkV { g with pages:=dropP g.pages i.toNat }))]∧r = .tup []):=by
 refine spec_go X_ok Tryz.f236 (by kernel_rfl) (by kernel_rfl) (by kernel_rfl) fun hb hH=>⟨rfl,?_⟩
 show ACall _ _ _ _ _ _
 refine .hand [(16,16)] [(16,.vars (rkV g))] [.c (.ptr 16 0 0),.int i] _ (.cons _ _ _ _ (.c _ _ (.ptr _ _ _ _ rfl)) (.cons _ _ _ _ .same .nil)) (.old 16 16 _ _ _ rfl rfl (.vars _ _ (LeL_refl rfl)) .nil) rfl (wdrop_spec g i h0 hd) ?_
 rintro H r ⟨rfl,rfl⟩ _ _
 refine ⟨rfl,.inl rfl,?_⟩
 show ARet _ _ _
 exact ⟨[(16,16)],[(16,.vars (rkV { g with pages:=dropP g.pages i.toNat }))],[],.nil,.old 16 16 _ _ _ rfl rfl (.vars _ _ (LeL_refl rfl)) .nil,rfl,rfl,rfl⟩
theorem wback_spec (g:Hp) (i:Int) (h0:0≤i) (hd:Drops g.pages i.toNat) (hk:(g.pages.getD i.toNat default).kind=1) (hok:g.free.ok):Spec X 261 [(16,.vars (rkV g))] [.c (.ptr 16 0 0),.int i] (fun H r=>H=[(16,.vars (rkV (backH g i)))]∧r = .tup []):=by
 refine spec_go X_ok Tryz.f261 (by kernel_rfl) (by kernel_rfl) (by kernel_rfl) fun hb hH=>⟨rfl,?_⟩
 have hlt:=hd.lt
 show AOb ((0:Int)≤i∧i < (g.pages.length:Int)) _
 refine ⟨by omega,?_⟩
 show ABr ((g.pages.getD i.toNat default).kind != 1) _ _
 rw [show ((g.pages.getD i.toNat default).kind != 1)=false by rw [hk];rfl]
 show ABr _ _ _
 refine ⟨fun h=>absurd h (by decide),fun _=>?_⟩
 have hl64:=(mayP_ok hd.may).2.2
 have e0:IntKind.i64.wrap (i+1)=i+1:=wrap64 (by omega) (by omega)
 have e1:IntKind.i64.wrap (IntKind.i64.wrap (i+1) * 16)=16 * (i+1):=by rw [e0,wrap64 (by omega) (by omega)];omega
 have e2:IntKind.i64.wrap (IntKind.i64.wrap (IntKind.i64.wrap (i+1) * 16)+16)=16 * (i+1)+16:=by rw [e1,wrap64 (by omega) (by omega)]
 have sp:Spec X 273 [] [g.free.tv,.int (g.pages.getD i.toNat default).arg,.int (IntKind.i64.wrap (IntKind.i64.wrap (i+1) * 16)),.int (IntKind.i64.wrap (IntKind.i64.wrap (IntKind.i64.wrap (i+1) * 16)+16))] (Ret [] (.tup [(g.free.set_ (g.pages.getD i.toNat default).arg (staysH g i)).tv,.c (.d (.sl .int (outsH g i))),.int 0])):=by
  rw [e2,e1]
  exact Part_spec g.free _ _ _ (((mayP_ok hd.may).1 i.toNat hlt).1 hk) hok
 show ADCall _ _ _ _ _ _
 refine .mk _ _ (sp) rfl ?_
 show ACall _ _ _ _ _ _
 refine call_ret (cCells_spec (g.pages.getD i.toNat default).arg) rfl ?_
 show ABr (decide (((outsH g i).length:Int)=clsN (g.pages.getD i.toNat default).arg)) _ _
 unfold backH
 by_cases hn:((outsH g i).length:Int)=clsN (g.pages.getD i.toNat default).arg
 ·rw [if_pos hn,decide_eq_true hn]
  show ABr _ _ _
  refine ⟨fun _=>?_,fun h=>absurd h (by decide)⟩
  show ACall _ _ _ _ _ _
  refine .hand [(16,16)] [(16,.vars (rkV { g with free:=g.free.set_ (g.pages.getD i.toNat default).arg (staysH g i) }))] [.c (.ptr 16 0 0),.int i] _ (.cons _ _ _ _ (.c _ _ (.ptr _ _ _ _ rfl)) (.cons _ _ _ _ .same .nil)) (.old 16 16 _ _ _ rfl rfl (.vars _ _ (LeL_refl rfl)) .nil) rfl (wdrop_spec { g with free:=g.free.set_ (g.pages.getD i.toNat default).arg (staysH g i) } i h0 hd) ?_
  rintro H r ⟨rfl,rfl⟩ _ _
  refine ⟨rfl,.inl rfl,?_⟩
  show ARet _ _ _
  exact ⟨[(16,16)],[(16,.vars (rkV { g with free:=g.free.set_ (g.pages.getD i.toNat default).arg (staysH g i),pages:=dropP g.pages i.toNat }))],[],.nil,.old 16 16 _ _ _ rfl rfl (.vars _ _ (LeL_refl rfl)) .nil,rfl,rfl,rfl⟩
 ·rw [if_neg hn,decide_eq_false hn]
  show ABr _ _ _
  refine ⟨fun h=>absurd h (by decide),fun _=>?_⟩
  show ARet _ _ _
  exact ⟨[(16,16)],[(16,.vars (rkV g))],[],.nil,.old 16 16 _ _ _ rfl rfl (.vars _ _ (LeL_refl rfl)) .nil,rfl,rfl,rfl⟩
theorem ok_set {l:Lists} {c:Int} {x:List Int} (h:l.ok) (hx:x.length≤most):(l.set_ c x).ok:=by
 obtain ⟨h1,h2,h3⟩:=h
 unfold Lists.set_
 split
 ·exact ⟨hx,h2,h3⟩
 ·split
  ·exact ⟨h1,hx,h3⟩
  ·exact ⟨h1,h2,hx⟩
theorem small_ok {g:Hp} (hs:g.small):g.free.ok:=by
 exact hs.2.2.2
theorem wpush_spec (g:Hp) (i a:Int) (h0:0≤i) (hd:Drops g.pages i.toNat) (hk:(g.pages.getD i.toNat default).kind=1) (hs:g.small) (h1:(g.free.at_ (g.pages.getD i.toNat default).arg).length < most) :
  Spec X 235 [(16,.vars (rkV g))] [.c (.ptr 16 0 0),.int i,.int a] (fun H r=>H=[(16,.vars (rkV (backH (pushH g i a) i)))]∧r = .tup []):=by
 refine Spec.fz (spec_go Xf_ok Tryz.f235 (by kernel_rfl) (by kernel_rfl) (by kernel_rfl) fun hb hH=>⟨rfl,?_⟩)
 have hlt:=hd.lt
 have harg:=((mayP_ok hd.may).1 i.toNat hlt).1 hk
 show AOb ((0:Int)≤i∧i < (g.pages.length:Int)) _
 refine ⟨by omega,?_⟩
 show ADCall _ _ _ _ _ _
 refine .mk _ _ ((Push_spec g.free (g.pages.getD i.toNat default).arg [a] harg (small_ok hs) h1).uz) rfl ?_
 show ACall _ _ _ _ _ _
 refine .hand [(16,16)] [(16,.vars (rkV (pushH g i a)))] [.c (.ptr 16 0 0),.int i] _ (.cons _ _ _ _ (.c _ _ (.ptr _ _ _ _ rfl)) (.cons _ _ _ _ .same .nil)) (.old 16 16 _ _ _ rfl rfl (.vars _ _ (LeL_refl rfl)) .nil) rfl (wback_spec (pushH g i a) i h0 hd hk (ok_set (small_ok hs) (by rw [List.length_append];exact h1))).uz ?_
 rintro H r ⟨rfl,rfl⟩ _ _
 refine ⟨rfl,.inl rfl,?_⟩
 show ARet _ _ _
 exact ⟨[(16,16)],[(16,.vars (rkV (backH (pushH g i a) i)))],[],.nil,.old 16 16 _ _ _ rfl rfl (.vars _ _ (LeL_refl rfl)) .nil,rfl,rfl,rfl⟩
theorem number_spec (a:Int) (h:0≤a) (h' : a < 9223372036854775808):Spec X 234 [] [.int a] (Ret [] (.int (pgI a))):=by
 refine spec_go X_ok Tryz.f234 (by kernel_rfl) (by kernel_rfl) (by kernel_rfl) fun hb hH=>⟨rfl,?_⟩
 show AOb _ _
 refine ⟨by decide,?_⟩
 show ARet _ _ _
 refine ret_int (x:=IntKind.i64.wrap (tdv a 16 - 1)) ?_ ⟨rfl,rfl⟩
 rw [tdv_eq h (by omega) h']
 exact wrap64 (by omega) (by omega)
set_option maxRecDepth 60000 in
set_option maxHeartbeats 2000000 in
theorem Free_spec (g:Hp) (a:Int) (hl:g.light) (hs:g.small):Spec X 194 [] [g.tv,.int a] (Ret [] (.tup [(freeH g a).tv,.int (headE g a)])):=by
 refine spec_go X_ok Tryz.f194 (by kernel_rfl) (by kernel_rfl) (by kernel_rfl) fun hb hH=>⟨rfl,?_⟩
 show ACall _ _ _ _ _ _
 refine call_ret (hHead_spec g a hl) rfl ?_
 unfold freeH
 by_cases h:headE g a=0
 ·show ABr (!decide (headE g a=0)) _ _
  rw [decide_eq_true h,if_pos h]
  show ABr _ _ _
  refine ⟨fun h=>absurd h (by decide),fun _=>?_⟩
  obtain ⟨hm,hr,_⟩:=headE_of h
  obtain ⟨hn0,hd⟩:=head_drops h
  show ACall _ _ _ _ _ _
  refine .mk _ (begun_spec g hs) fun H r ⟨eH,er⟩ _ _=>⟨.inl rfl,?_⟩
  subst eH er
  obtain ⟨z1,z2,z3,z4⟩:=head_room h
  obtain ⟨_,_,hwl,_,_,hl64⟩:=shapedH_of (mayH_shaped hm)
  have hlt:=hd.lt
  have hwl' : (freeW g a).length=g.w.length:=freeW_len h
  have hs' : ({ g with w:=freeW g a }:Hp).small:=⟨by show (freeW g a).length≤most;rw [hwl'];exact hs.1,hs.2⟩
  show ADCall _ _ _ _ _ _
  refine .mk _ _ (Room_spec g.pages a) rfl ?_
  show ADCall _ _ _ _ _ _
  refine .mk _ _ (aZero_spec g.w a (roomAt g.pages a) z1 ⟨z2,z3,z4⟩) rfl ?_
  show ACall _ _ _ _ _ _
  refine call_ret (number_spec a (by omega) (by unfold pgI at hlt hn0;omega)) rfl ?_
  show AOb ((0:Int)≤pgI a∧pgI a < (g.pages.length:Int)) _
  refine ⟨by omega,?_⟩
  show ABr ((g.pages.getD (pgI a).toNat default).kind == 2) _ _
  by_cases hk:(g.pages.getD (pgI a).toNat default).kind=2
  ·rw [if_pos hk,show ((g.pages.getD (pgI a).toNat default).kind == 2)=true by simp only [beq_iff_eq];exact hk]
   show ABr _ _ _
   refine ⟨fun _=>?_,fun h=>absurd h (by decide)⟩
   show ACall _ _ _ _ _ _
   refine .hand [(512,16)] [(16,.vars (rkV { g with w:=freeW g a }))] [.c (.ptr 16 0 0),.int (pgI a),.int a] _ (.cons _ _ _ _ (.c _ _ (.ptr _ _ _ _ rfl)) (.cons _ _ _ _ .same (.cons _ _ _ _ .same .nil))) (.old 16 512 _ _ _ rfl rfl (.vars _ _ (LeL_refl rfl)) .nil) rfl (free1_spec { g with w:=freeW g a } (pgI a) a hn0 hd) ?_
   rintro H r ⟨rfl,rfl⟩ _ _
   refine ⟨rfl,.inl rfl,?_⟩
   show ARet _ _ _
   exact ret_d rfl ⟨rfl,by rw [h];rfl⟩
  ·rw [if_neg hk,show ((g.pages.getD (pgI a).toNat default).kind == 2)=false by simp only [beq_eq_false_iff_ne];exact hk]
   show ABr _ _ _
   refine ⟨fun h=>absurd h (by decide),fun _=>?_⟩
   show ACall _ _ _ _ _ _
   refine .hand [(512,16)] [(16,.vars (rkV { g with w:=freeW g a }))] [.c (.ptr 16 0 0),.int (pgI a),.int a] _ (.cons _ _ _ _ (.c _ _ (.ptr _ _ _ _ rfl)) (.cons _ _ _ _ .same (.cons _ _ _ _ .same .nil))) (.old 16 512 _ _ _ rfl rfl (.vars _ _ (LeL_refl rfl)) .nil) rfl (wpush_spec { g with w:=freeW g a } (pgI a) a hn0 hd (hd.kind.resolve_right hk) hs' (Nat.lt_of_le_of_lt (may_at hm _) (by unfold most;omega))) ?_
   rintro H r ⟨rfl,rfl⟩ _ _
   refine ⟨rfl,.inl rfl,?_⟩
   show ARet _ _ _
   exact ret_d rfl ⟨rfl,by rw [h];rfl⟩
 ·show ABr (!decide (headE g a=0)) _ _
  rw [decide_eq_false h,if_neg h]
  show ABr _ _ _
  refine ⟨fun _=>?_,fun h=>absurd h (by decide)⟩
  show ARet _ _ _
  exact ⟨[],[],_,.cons _ _ _ _ (.agg _ _ (.cons _ _ _ _ (.nilsl .int) (.cons _ _ _ _ (.nilsl .page) (.cons _ _ _ _ (.nilsl .int) (.cons _ _ _ _ (.nilsl .int) (.cons _ _ _ _ (.nilsl .int) (.cons _ _ _ _ (.nilsl .bool) .nil))))))) (.cons _ _ _ _ .same .nil),.nil,rfl,rfl,rfl⟩
end Go.Abs
namespace Go.Abs
open Go.Proofs Go.Proofs.YtejnngjfjaeiiaaGreatDoor
set_option maxRecDepth 8000
def fateH (g:Hp) (c:Col) (a:Int):Int:=if headE g a≠0∨((headH g a).old=true∧c.major=false) then 0 else if (headH g a).mark < c.epoch then 1 else if (headH g a).old=false∧(headH g a).born < c.epoch then 2 else 0
theorem fateH_cases (g:Hp) (c:Col) (a:Int):fateH g c a=0∨(fateH g c a=1∧headE g a=0)∨(fateH g c a=2∧headE g a=0):=by
 unfold fateH
 split
 ·exact .inl rfl
 ·rename_i h
  have h:headE g a=0:=Classical.byContradiction fun k=>h (.inl k)
  split
  ·exact .inr (.inl ⟨rfl,h⟩)
  ·split
   ·exact .inr (.inr ⟨rfl,h⟩)
   ·exact .inl rfl
theorem fateH_col {c d:Col} (h1:d.epoch=c.epoch) (h2:d.major=c.major) (g:Hp) (a:Int):fateH g d a=fateH g c a:=by unfold fateH;rw [h1,h2]
theorem Fate_spec (g:Hp) (c:Col) (a:Int) (hl:g.light):Spec X 150 [] [g.tv,c.tv,.int a] (Ret [] (.int (fateH g c a))):=by
 refine spec_go X_ok Tryz.f150 (by kernel_rfl) (by kernel_rfl) (by kernel_rfl) fun hb hH=>⟨rfl,?_⟩
 show ACall _ _ _ _ _ _
 refine call_ret (hHead_spec g a hl) rfl ?_
 unfold fateH
 by_cases hE:headE g a=0
 ·show ABr (!decide (headE g a=0)) _ _
  rw [decide_eq_true hE]
  show ABr _ _ _
  refine ⟨fun h=>absurd h (by decide),fun _=>?_⟩
  by_cases h1:(headH g a).old=true∧c.major=false
  ·rw [if_pos (.inr h1)]
   show ABr (bif (headH g a).old then !c.major else false) _ _
   rw [h1.1,h1.2]
   show ABr _ _ _
   refine ⟨fun _=>?_,fun h=>absurd h (by decide)⟩
   show ARet _ _ _
   exact ret_d rfl ⟨rfl,rfl⟩
  ·rw [if_neg (fun k=>k.elim (fun k=>k hE) h1)]
   show ABr (bif (headH g a).old then !c.major else false) _ _
   rw [show (bif (headH g a).old then !c.major else false)=false by cases ho:(headH g a).old <;> cases hm:c.major <;> first | rfl | exact absurd ⟨ho,hm⟩ h1]
   show ABr _ _ _
   refine ⟨fun h=>absurd h (by decide),fun _=>?_⟩
   show ABr (decide ((headH g a).mark < c.epoch)) _ _
   by_cases h2:(headH g a).mark < c.epoch
   ·rw [if_pos h2,decide_eq_true h2]
    show ABr _ _ _
    refine ⟨fun _=>?_,fun h=>absurd h (by decide)⟩
    show ARet _ _ _
    exact ret_d rfl ⟨rfl,rfl⟩
   ·rw [if_neg h2,decide_eq_false h2]
    show ABr _ _ _
    refine ⟨fun h=>absurd h (by decide),fun _=>?_⟩
    show ABr (bif !(headH g a).old then decide ((headH g a).born < c.epoch) else false) _ _
    by_cases h3:(headH g a).old=false∧(headH g a).born < c.epoch
    ·rw [if_pos h3,h3.1,decide_eq_true h3.2]
     show ABr _ _ _
     refine ⟨fun _=>?_,fun h=>absurd h (by decide)⟩
     show ARet _ _ _
     exact ret_d rfl ⟨rfl,rfl⟩
    ·rw [if_neg h3,show (bif !(headH g a).old then decide ((headH g a).born < c.epoch) else false)=false by cases ho:(headH g a).old <;> first | rfl | exact decide_eq_false fun k=>h3 ⟨ho,k⟩]
     show ABr _ _ _
     refine ⟨fun h=>absurd h (by decide),fun _=>?_⟩
     show ARet _ _ _
     exact ret_d rfl ⟨rfl,rfl⟩
 ·rw [if_pos (.inl hE)]
  show ABr (!decide (headE g a=0)) _ _
  rw [decide_eq_false hE]
  show ABr _ _ _
  refine ⟨fun _=>?_,fun h=>absurd h (by decide)⟩
  show ABr (!decide (headE g a=0)) _ _
  rw [decide_eq_false hE]
  show ABr _ _ _
  refine ⟨fun _=>?_,fun h=>absurd h (by decide)⟩
  show ARet _ _ _
  exact ret_d rfl ⟨rfl,rfl⟩
def swV (g:Hp) (c:Col):List CV:=(g.enc ++ c.enc).map .d
theorem swown_spec (g:Hp) (c:Col) (hs:g.small) (hw:c.work.length≤most):Spec X 94 [] [g.tv,c.tv] (Ret [(0,.vars (swV g c))] (.c (.ptr 0 0 0))):=by
 refine spec_go X_ok Tryz.f94 (by kernel_rfl) (by kernel_rfl) (by kernel_rfl) fun hb hH=>⟨rfl,?_⟩
 obtain ⟨h1,h2,h3,h4,h5,h6⟩:=hs
 show ADCall _ _ _ _ _ _
 refine .mk _ _ (CloneInts_spec g.w h1) rfl ?_
 show ADCall _ _ _ _ _ _
 refine .mk _ _ (ClonePages_spec g.pages h2) rfl ?_
 show ADCall _ _ _ _ _ _
 refine .mk _ _ (CloneBools_spec g.cards h3) rfl ?_
 show ∃ n,_
 refine ⟨4,?_⟩
 show ALoop _ _ _ _
 refine .next ?_
 show ABr _ _ _
 refine ⟨fun _=>?_,fun h=>absurd h (by decide)⟩
 show AOb _ _
 refine ⟨by decide,?_⟩
 show ACall _ _ _ _ _ _
 refine call_ret (CloneInts_spec g.free.l0 h4) rfl ?_
 show AOb _ _
 refine ⟨by decide,?_⟩
 show ALoop _ _ _ _
 refine .next ?_
 show ABr _ _ _
 refine ⟨fun _=>?_,fun h=>absurd h (by decide)⟩
 show AOb _ _
 refine ⟨by decide,?_⟩
 show ACall _ _ _ _ _ _
 refine call_ret (CloneInts_spec g.free.l1 h5) rfl ?_
 show AOb _ _
 refine ⟨by decide,?_⟩
 show ALoop _ _ _ _
 refine .next ?_
 show ABr _ _ _
 refine ⟨fun _=>?_,fun h=>absurd h (by decide)⟩
 show AOb _ _
 refine ⟨by decide,?_⟩
 show ACall _ _ _ _ _ _
 refine call_ret (CloneInts_spec g.free.l2 h6) rfl ?_
 show AOb _ _
 refine ⟨by decide,?_⟩
 show ALoop _ _ _ _
 refine .next ?_
 show ABr _ _ _
 refine ⟨fun h=>absurd h (by decide),fun _=>?_⟩
 show ACall _ _ _ _ _ _
 refine call_ret (CloneInts_spec c.work hw) rfl ?_
 show ARet _ _ _
 exact ⟨[(_,0)],[(0,.vars (swV g c))],[.c (.ptr 0 0 0)],.cons _ _ _ _ (.c _ _ (.ptr1 _ _ _ _)) .nil,.old 0 _ _ _ _ rfl rfl (.vars _ _ (LeL_refl rfl)) .nil,rfl,rfl,rfl⟩
theorem swfree_spec (g:Hp) (c:Col) (a:Int) (hl:g.light) (hs:g.small):Spec X 152 [(16,.vars (swV g c))] [.c (.ptr 16 0 0),.int a] (fun H r=>H=[(16,.vars (swV (freeH g a) c))]∧r = .tup []):=by
 refine spec_go X_ok Tryz.f152 (by kernel_rfl) (by kernel_rfl) (by kernel_rfl) fun hb hH=>⟨rfl,?_⟩
 show ACall _ _ _ _ _ _
 refine call_ret (Free_spec g a hl hs) rfl ?_
 show ARet _ _ _
 exact ⟨[(16,16)],[(16,.vars (swV (freeH g a) c))],[],.nil,.old 16 16 _ _ _ rfl rfl (.vars _ _ (LeL_refl rfl)) .nil,rfl,rfl,rfl⟩
theorem swdirty_spec (g:Hp) (c:Col) (a:Int) (hl:g.light) (ha:a < 9223372036854775808):Spec X 153 [(16,.vars (swV g c))] [.c (.ptr 16 0 0),.int a] (fun H r=>H=[(16,.vars (swV (dirtyH g a) { c with met:=true }))]∧r = .tup []):=by
 refine spec_go X_ok Tryz.f153 (by kernel_rfl) (by kernel_rfl) (by kernel_rfl) fun hb hH=>⟨rfl,?_⟩
 show ACall _ _ _ _ _ _
 refine call_ret (Dirty_spec g a hl ha) rfl ?_
 show ARet _ _ _
 exact ⟨[(16,16)],[(16,.vars (swV (dirtyH g a) { c with met:=true }))],[],.nil,.old 16 16 _ _ _ rfl rfl (.vars _ _ (LeL_refl rfl)) .nil,rfl,rfl,rfl⟩
theorem swend_spec (g:Hp) (c:Col):Spec X 97 [(16,.vars (swV g c))] [.c (.ptr 16 0 0)] (fun H r=>H=[(16,.vars (swV g ⟨0,c.epoch,c.major,[],false,0,0,0,0,false⟩))]∧r = .tup []):=by
 refine spec_go X_ok Tryz.f97 (by kernel_rfl) (by kernel_rfl) (by kernel_rfl) fun hb hH=>⟨rfl,?_⟩
 show ARet _ _ _
 exact ⟨[(16,16)],[(16,.vars (swV g ⟨0,c.epoch,c.major,[],false,0,0,0,0,false⟩))],[],.nil,.old 16 16 _ _ _ rfl rfl (.vars _ _ (.cons _ _ _ _ (.d _) (.cons _ _ _ _ (.d _) (.cons _ _ _ _ (.d _) (.cons _ _ _ _ (.d _) (.cons _ _ _ _ (.d _) (.cons _ _ _ _ (.d _) (.cons _ _ _ _ (.d _) (.cons _ _ _ _ (.d _) (.cons _ _ _ _ (.d _) (.cons _ _ _ _ (.nilsl .int) (.cons _ _ _ _ (.d _) (.cons _ _ _ _ (.d _) (.cons _ _ _ _ (.d _) (.cons _ _ _ _ (.d _) (.cons _ _ _ _ (.d _) (.cons _ _ _ _ (.d _) .nil))))))))))))))))) .nil,rfl,rfl,rfl⟩
def ageG (g:Hp) (c:Col):Hp:=if fateH g c c.seek=2 then setH g c.seek { headH g c.seek with old:=true } else g
theorem swage_spec (g:Hp) (c:Col) (hl:g.light):Spec X 95 [(16,.vars (swV g c))] [.c (.ptr 16 0 0),.int c.seek] (fun H r=>H=[(16,.vars (swV (ageG g c) { c with met:=false }))]∧r = .tup []):=by
 refine spec_go X_ok Tryz.f95 (by kernel_rfl) (by kernel_rfl) (by kernel_rfl) fun hb hH=>⟨rfl,?_⟩
 show ADCall _ _ _ _ _ _
 refine .mk _ _ (Fate_spec g { c with met:=false } c.seek hl) rfl ?_
 rw [fateH_col (c:=c) (d:={ c with met:=false }) rfl rfl]
 unfold ageG
 by_cases h:fateH g c c.seek=2
 ·rw [if_pos h]
  show ABr (!decide (fateH g c c.seek=2)) _ _
  rw [decide_eq_true h]
  show ABr _ _ _
  refine ⟨fun h=>absurd h (by decide),fun _=>?_⟩
  show ACall _ _ _ _ _ _
  refine call_ret (hHead_spec g c.seek hl) rfl ?_
  show ADCall _ _ _ _ _ _
  refine .mk _ _ (hSet_spec g c.seek { headH g c.seek with old:=true } hl) rfl ?_
  show ARet _ _ _
  exact ⟨[(16,16)],[(16,.vars (swV (setH g c.seek { headH g c.seek with old:=true }) { c with met:=false }))],[],.nil,.old 16 16 _ _ _ rfl rfl (.vars _ _ (LeL_refl rfl)) .nil,rfl,rfl,rfl⟩
 ·rw [if_neg h]
  show ABr (!decide (fateH g c c.seek=2)) _ _
  rw [decide_eq_false h]
  show ABr _ _ _
  refine ⟨fun _=>?_,fun h=>absurd h (by decide)⟩
  show ARet _ _ _
  exact ⟨[(16,16)],[(16,.vars (swV g { c with met:=false }))],[],.nil,.old 16 16 _ _ _ rfl rfl (.vars _ _ (LeL_refl rfl)) .nil,rfl,rfl,rfl⟩
def cellS (g:Hp) (c:Col) (a:Int):Hp × Col:=if fateH g c a=1 then (freeH g a,{ c with seek:=a }) else if fateH g c a=2 then (dirtyH g a,{ c with seek:=a,met:=true }) else (g,{ c with seek:=a })
set_option maxRecDepth 60000 in
set_option maxHeartbeats 2000000 in
theorem swcell_spec (g:Hp) (c:Col) (a:Int) (hl:g.light) (hs:g.small) (ha:a < 9223372036854775808):Spec X 96 [(16,.vars (swV g c))] [.c (.ptr 16 0 0),.int a] (fun H r=>H=[(16,.vars (swV (cellS g c a).1 (cellS g c a).2))]∧r = .tup []):=by
 refine spec_go X_ok Tryz.f96 (by kernel_rfl) (by kernel_rfl) (by kernel_rfl) fun hb hH=>⟨rfl,?_⟩
 have fs:=Fate_spec g { c with seek:=a } a hl
 rw [fateH_col (c:=c) (d:={ c with seek:=a }) rfl rfl] at fs
 unfold cellS
 rcases fateH_cases g c a with h | ⟨h,_⟩ | ⟨h,_⟩
 ·rw [h] at fs ⊢
  show ADCall _ _ _ _ _ _
  refine .mk _ _ (fs) rfl ?_
  show ABr _ _ _
  refine ⟨fun h=>absurd h (by decide),fun _=>?_⟩
  show ARet _ _ _
  exact ⟨[(16,16)],[(16,.vars (swV g { c with seek:=a }))],[],.nil,.old 16 16 _ _ _ rfl rfl (.vars _ _ (LeL_refl rfl)) .nil,rfl,rfl,rfl⟩
 ·rw [h] at fs ⊢
  show ADCall _ _ _ _ _ _
  refine .mk _ _ (fs) rfl ?_
  show ABr _ _ _
  refine ⟨fun _=>?_,fun h=>absurd h (by decide)⟩
  show ACall _ _ _ _ _ _
  refine .hand [(16,16)] [(16,.vars (swV g { c with seek:=a }))] [.c (.ptr 16 0 0),.int a] _ (.cons _ _ _ _ (.c _ _ (.ptr _ _ _ _ rfl)) (.cons _ _ _ _ .same .nil)) (.old 16 16 _ _ _ rfl rfl (.vars _ _ (LeL_refl rfl)) .nil) rfl (swfree_spec g { c with seek:=a } a hl hs) ?_
  rintro H r ⟨rfl,rfl⟩ _ _
  refine ⟨rfl,.inl rfl,?_⟩
  show ARet _ _ _
  exact ⟨[(16,16)],[(16,.vars (swV (freeH g a) { c with seek:=a }))],[],.nil,.old 16 16 _ _ _ rfl rfl (.vars _ _ (LeL_refl rfl)) .nil,rfl,rfl,rfl⟩
 ·rw [h] at fs ⊢
  show ADCall _ _ _ _ _ _
  refine .mk _ _ (fs) rfl ?_
  show ABr _ _ _
  refine ⟨fun _=>?_,fun h=>absurd h (by decide)⟩
  show ACall _ _ _ _ _ _
  refine .hand [(16,16)] [(16,.vars (swV g { c with seek:=a }))] [.c (.ptr 16 0 0),.int a] _ (.cons _ _ _ _ (.c _ _ (.ptr _ _ _ _ rfl)) (.cons _ _ _ _ .same .nil)) (.old 16 16 _ _ _ rfl rfl (.vars _ _ (LeL_refl rfl)) .nil) rfl (swdirty_spec g { c with seek:=a } a hl ha) ?_
  rintro H r ⟨rfl,rfl⟩ _ _
  refine ⟨rfl,.inl rfl,?_⟩
  show ARet _ _ _
  exact ⟨[(16,16)],[(16,.vars (swV (dirtyH g a) { c with seek:=a,met:=true }))],[],.nil,.old 16 16 _ _ _ rfl rfl (.vars _ _ (LeL_refl rfl)) .nil,rfl,rfl,rfl⟩
def sweepS (g : Hp) (c : Col) : Hp × Col :=
  if mayH g [] = true ∧ c.phase = 6 then
    (if c.met = true then (ageG g c, { c with met := false })
     else if nextB g.pages c.seek = true then cellS g c (nextS g.pages c.seek)
     else (g, ⟨0, c.epoch, c.major, [], false, 0, 0, 0, 0, false⟩))
  else (g, c)
theorem next_lt {l : List Page} {a : Int} : nextS l a < 9223372036854775808 := by
  unfold nextS
  cases h : (cellStarts l).find? fun s => decide (a < s) with
  | none => show (0 : Int) < _; omega
  | some x =>
    have hx := List.mem_of_find?_eq_some h
    obtain ⟨hm, j, hj⟩ := cellOf_mem (roomAt_pos (mem_starts.1 hx))
    have h1 : x < 16 * ((j : Int) + 2) := hj.hi
    have h2 := hj.lt
    have h3 := (mayP_ok hm).2.2
    show x < _
    omega
set_option maxRecDepth 60000 in
set_option maxHeartbeats 2000000 in
theorem swStep_spec (g : Hp) (c : Col) (hl : g.light) (hs : g.small) (hk : c.work.length ≤ most) : Spec X 47 [] [g.tv, c.tv] (Ret [] (.tup [(sweepS g c).1.tv, (sweepS g c).2.tv])) := by
  refine spec_go X_ok Tryz.f47 (by kernel_rfl) (by kernel_rfl) (by kernel_rfl) fun hb hH => ⟨rfl, ?_⟩
  show ACall _ _ _ _ _ _
  refine .mk _ (swown_spec g c hs hk) fun H r ⟨eH, er⟩ _ _ => ⟨.inl rfl, ?_⟩
  subst eH er
  show ACall _ _ _ _ _ _
  refine call_ret (nextC_spec g.pages c.seek) rfl ?_
  show ACall _ _ _ _ _ _
  refine call_ret (hHMay0_spec g hl) rfl ?_
  unfold sweepS
  by_cases hm : mayH g [] = true
  · show ABr (!mayH g []) _ _
    rw [hm]
    show ABr _ _ _
    refine ⟨fun h => absurd h (by decide), fun _ => ?_⟩
    show ABr (!decide (c.phase = 6)) _ _
    by_cases hp : c.phase = 6
    · rw [if_pos ⟨rfl, hp⟩, decide_eq_true hp]
      show ABr _ _ _
      refine ⟨fun h => absurd h (by decide), fun _ => ?_⟩
      show ABr c.met _ _
      refine ⟨fun hmet => ?_, fun hmet => ?_⟩
      · rw [if_pos hmet]
        show ACall _ _ _ _ _ _
        refine .hand [(224, 16)] [(16, .vars (swV g c))] [.c (.ptr 16 0 0), .int c.seek] _ (.cons _ _ _ _ (.c _ _ (.ptr _ _ _ _ rfl)) (.cons _ _ _ _ .same .nil)) (.old 16 224 _ _ _ rfl rfl (.vars _ _ (LeL_refl rfl)) .nil) rfl (swage_spec g c hl) ?_
        rintro H r ⟨rfl, rfl⟩ _ _
        refine ⟨rfl, .inl rfl, ?_⟩
        show ARet _ _ _
        exact ret_d rfl ⟨rfl, rfl⟩
      · rw [if_neg (by rw [hmet]; decide)]
        show ABr (nextB g.pages c.seek) _ _
        cases hn : nextB g.pages c.seek with
        | true =>
          rw [if_pos rfl]
          show ABr _ _ _
          refine ⟨fun _ => ?_, fun h => absurd h (by decide)⟩
          show ACall _ _ _ _ _ _
          refine .hand [(224, 16)] [(16, .vars (swV g c))] [.c (.ptr 16 0 0), .int (nextS g.pages c.seek)] _ (.cons _ _ _ _ (.c _ _ (.ptr _ _ _ _ rfl)) (.cons _ _ _ _ .same .nil)) (.old 16 224 _ _ _ rfl rfl (.vars _ _ (LeL_refl rfl)) .nil) rfl (swcell_spec g c (nextS g.pages c.seek) hl hs next_lt) ?_
          rintro H r ⟨rfl, rfl⟩ _ _
          refine ⟨rfl, .inl rfl, ?_⟩
          show ARet _ _ _
          exact ret_d rfl ⟨rfl, rfl⟩
        | false =>
          rw [if_neg (by decide)]
          show ABr _ _ _
          refine ⟨fun h => absurd h (by decide), fun _ => ?_⟩
          show ACall _ _ _ _ _ _
          refine .hand [(224, 16)] [(16, .vars (swV g c))] [.c (.ptr 16 0 0)] _ (.cons _ _ _ _ (.c _ _ (.ptr _ _ _ _ rfl)) .nil) (.old 16 224 _ _ _ rfl rfl (.vars _ _ (LeL_refl rfl)) .nil) rfl (swend_spec g c) ?_
          rintro H r ⟨rfl, rfl⟩ _ _
          refine ⟨rfl, .inl rfl, ?_⟩
          show ARet _ _ _
          exact ret_d rfl ⟨rfl, rfl⟩
    · rw [if_neg (fun k => hp k.2), decide_eq_false hp]
      show ABr _ _ _
      refine ⟨fun _ => ?_, fun h => absurd h (by decide)⟩
      show ARet _ _ _
      exact ret_d rfl ⟨rfl, rfl⟩
  · show ABr (!mayH g []) _ _
    rw [if_neg (fun k => hm k.1), show mayH g [] = false by simpa using hm]
    show ABr _ _ _
    refine ⟨fun _ => ?_, fun h => absurd h (by decide)⟩
    show ABr (!false) _ _
    show ABr _ _ _
    refine ⟨fun _ => ?_, fun h => absurd h (by decide)⟩
    show ARet _ _ _
    exact ret_d rfl ⟨rfl, rfl⟩
end Go.Abs
namespace Go.Abs
set_option maxRecDepth 8000
abbrev agedH (g:Hp) (a:Int):Hd:={ headH g a with old:=true }
theorem old_ok {g:Hp} {a:Int} (h:headE g a=0):PutOk g a (agedH g a)∧setH g a (agedH g a)=putH g a (agedH g a).word:=by
 have hu:=(head_fits h).1
 obtain ⟨p,s⟩:=putok_of (x:=agedH g a) h (by have:=(head_may h).1;unfold Hd.May at this ⊢;rw [if_pos hu] at this;rw [if_pos hu];exact this) hu rfl
 exact ⟨p,setH_yes s⟩
theorem freed_light {g k:Hp} {a:Int} {cs:List Lists} (f:Freed g k a cs):k.light:=by
 have:=may_light (may_no f.may)
 unfold Hp.light most;omega
theorem freed_small {g k:Hp} {a:Int} {cs:List Lists} (f:Freed g k a cs) (h:g.small):k.small:=by
 obtain ⟨h1,h2,h3,_⟩:=h
 have hm:=may_no f.may
 have e0:=may_at hm 0
 have e1:=may_at hm 1
 have e2:=may_at hm 2
 have e0:k.free.l0.length≤512:=e0
 have e1:k.free.l1.length≤512:=e1
 have e2:k.free.l2.length≤512:=e2
 refine ⟨by rw [f.wlen];exact h1,by rw [f.plen];exact h2,by rw [f.cards];exact h3,?_,?_,?_⟩ <;> unfold most <;> omega
inductive SwStep (g:Hp) (c:Col):Hp→Col→Prop
 | idle (h:¬ (mayH g []=true∧c.phase=6)):SwStep g c g c
 | old (hm:mayH g []=true) (hp:c.phase=6) (hmet:c.met=true) (hf:fateH g c c.seek=2) (h0:headE g c.seek=0) (h:PutOk g c.seek (agedH g c.seek)):SwStep g c (putH g c.seek (agedH g c.seek).word) { c with met:=false }
 | pass (hm:mayH g []=true) (hp:c.phase=6) (hmet:c.met=true) (hf:fateH g c c.seek≠2):SwStep g c g { c with met:=false }
 | free (hm:mayH g []=true) (hp:c.phase=6) (hmet:c.met=false) (hn:nextS g.pages c.seek∈cellStarts g.pages) (hl:c.seek < nextS g.pages c.seek) (hq:∀ u∈cellStarts g.pages,c.seek < u→nextS g.pages c.seek≤u) (hf:fateH g c (nextS g.pages c.seek)=1) (h0:headE g (nextS g.pages c.seek)=0):SwStep g c (freeH g (nextS g.pages c.seek)) { c with seek:=nextS g.pages c.seek }
 | dirty (hm:mayH g []=true) (hp:c.phase=6) (hmet:c.met=false) (hn:nextS g.pages c.seek∈cellStarts g.pages) (hl:c.seek < nextS g.pages c.seek) (hq:∀ u∈cellStarts g.pages,c.seek < u→nextS g.pages c.seek≤u) (hf:fateH g c (nextS g.pages c.seek)=2) (h0:headE g (nextS g.pages c.seek)=0) (hc:cardE g (nextS g.pages c.seek)=0):SwStep g c (cset g (cardOf g (nextS g.pages c.seek)) true) { c with seek:=nextS g.pages c.seek,met:=true }
 | stay (hm:mayH g []=true) (hp:c.phase=6) (hmet:c.met=false) (hn:nextS g.pages c.seek∈cellStarts g.pages) (hl:c.seek < nextS g.pages c.seek) (hq:∀ u∈cellStarts g.pages,c.seek < u→nextS g.pages c.seek≤u) (hf:fateH g c (nextS g.pages c.seek)=0):SwStep g c g { c with seek:=nextS g.pages c.seek }
 | done (hm:mayH g []=true) (hp:c.phase=6) (hmet:c.met=false) (hn:∀ u∈cellStarts g.pages,u≤c.seek):SwStep g c g ⟨0,c.epoch,c.major,[],false,0,0,0,0,false⟩
theorem nextB_cases (l : List Page) (a : Int) : (nextB l a = false ∧ ∀ u ∈ cellStarts l, u ≤ a) ∨ (nextB l a = true ∧ a < nextS l a ∧ nextS l a ∈ cellStarts l ∧ ∀ u ∈ cellStarts l, a < u → nextS l a ≤ u) := by
  unfold nextB
  cases h : (cellStarts l).find? fun s => decide (a < s) with
  | none =>
    refine .inl ⟨rfl, fun u hu => ?_⟩
    have := List.find?_eq_none.1 h u hu
    simpa using this
  | some x =>
    refine .inr ⟨rfl, ?_⟩
    have hx := List.find?_some h
    have hm := List.mem_of_find?_eq_some h
    have hx : a < x := of_decide_eq_true hx
    rcases nextS_cases l a with ⟨_, h2⟩ | h2
    · have := h2 x hm; omega
    · exact h2
theorem sweep_step (g : Hp) (c : Col) : SwStep g c (sweepS g c).1 (sweepS g c).2 := by
  unfold sweepS
  by_cases hm : mayH g [] = true ∧ c.phase = 6
  · rw [if_pos hm]
    obtain ⟨hm, hp⟩ := hm
    cases hmet : c.met with
    | true =>
      rw [if_pos rfl]
      unfold ageG
      by_cases hf : fateH g c c.seek = 2
      · rw [if_pos hf]
        have h0 : headE g c.seek = 0 := by
          rcases fateH_cases g c c.seek with h | ⟨h, _⟩ | ⟨_, h⟩
          · omega
          · omega
          · exact h
        obtain ⟨p, e⟩ := old_ok h0
        show SwStep g c (setH g c.seek (agedH g c.seek)) _
        rw [e]
        exact .old hm hp hmet hf h0 p
      · rw [if_neg hf]
        exact .pass hm hp hmet hf
    | false =>
      rw [if_neg (by decide)]
      rcases nextB_cases g.pages c.seek with ⟨h1, h2⟩ | ⟨h1, h2, h3, h4⟩
      · rw [h1, if_neg (by decide)]
        exact .done hm hp hmet h2
      · rw [h1, if_pos rfl]
        unfold cellS
        rcases fateH_cases g c (nextS g.pages c.seek) with h | ⟨h, h0⟩ | ⟨h, h0⟩
        · rw [if_neg (by omega), if_neg (by omega)]
          exact .stay hm hp hmet h3 h2 h4 h
        · rw [if_pos h]
          exact .free hm hp hmet h3 h2 h4 h h0
        · rw [if_neg (by omega), if_pos h]
          have hc : cardE g (nextS g.pages c.seek) = 0 := by
            obtain ⟨z1, z2, z3, z4⟩ := head_room h0
            exact cardE_mk hm ⟨z2, by omega⟩
          show SwStep g c (dirtyH g (nextS g.pages c.seek)) _
          rw [dirtyH_yes hc]
          exact .dirty hm hp hmet h3 h2 h4 h h0 hc
  · rw [if_neg hm]
    exact .idle hm
theorem SwStep.light {g k:Hp} {c d:Col} (s:SwStep g c k d) (h:g.light):k.light:=by
 cases s with
 | idle | pass | stay | done=>exact h
 | old hm hp hmet hf h0 p=>exact h
 | free hm hp hmet hn hl hq hf h0=>exact freed_light (freed hm h0)
 | dirty=>exact h
theorem SwStep.small {g k : Hp} {c d : Col} (s : SwStep g c k d) (h : g.small) : k.small := by
  cases s with
  | idle | pass | stay | done => exact h
  | old hm hp hmet hf h0 p =>
    obtain ⟨h1, h2⟩ := h
    exact ⟨by show (List.set _ _ _).length ≤ _; rw [List.length_set]; exact h1, h2⟩
  | free hm hp hmet hn hl hq hf h0 => exact freed_small (freed hm h0) h
  | dirty =>
    obtain ⟨h1, h2, h3, h4⟩ := h
    exact ⟨h1, h2, by rw [cset_len]; exact h3, h4⟩
theorem SwStep.work {g k:Hp} {c d:Col} (s:SwStep g c k d):d.work=c.work∨d.work=[]:=by
 cases s <;> first | exact .inl rfl | exact .inr rfl
theorem SwStep.col {g k:Hp} {c d:Col} (s:SwStep g c k d):d.epoch=c.epoch∧d.major=c.major:=by
 cases s <;> exact ⟨rfl,rfl⟩
end Go.Abs
namespace Go.Abs
open Go.Proofs Go.Proofs.YtejnngjfjaeiiaaGreatDoor
set_option maxRecDepth 8000
end Go.Abs
namespace Go.Abs
open Go.Proofs Go.Proofs.YtejnngjfjaeiiaaGreatDoor
set_option maxRecDepth 8000
end Go.Abs
namespace Go.Abs
open Go.Proofs Go.Proofs.YtejnngjfjaeiiaaGreatDoor
set_option maxRecDepth 8000
end Go.Abs
namespace Go.Abs
open Go.Proofs Go.Proofs.YtejnngjfjaeiiaaGreatDoor
set_option maxRecDepth 8000
end Go.Abs
namespace Go.Abs
open Go.Proofs Go.Proofs.YtejnngjfjaeiiaaGreatDoor
set_option maxRecDepth 8000
end Go.Abs
namespace Go.Abs
open Go.Proofs Go.Proofs.YtejnngjfjaeiiaaGreatDoor
set_option maxRecDepth 8000
theorem dirty_cset {g:Hp} {a:Int} (h:cardE g a=0) (b:Bool):isDirty (cset g (cardOf g a) b) a=b:=by
 have hc:=card_in h
 unfold isDirty
 rw [cardE_cset,h,cardOf_cset]
 show (true && (g.cards.set (cardOf g a).toNat b).getD (cardOf g a).toNat false)=b
 rw [List.getD_eq_getElem?_getD,List.getElem?_set,if_pos rfl,if_pos (by omega)]
 simp
end Go.Abs
namespace Go.Abs
open Go.Proofs Go.Proofs.YtejnngjfjaeiiaaGreatDoor
set_option maxRecDepth 8000
theorem isDirty_cset {g:Hp} {a:Int} (h:cardE g a=0) (c:Int) (hd:isDirty g a=true):isDirty (cset g c true) a=true:=by
 unfold isDirty at hd ⊢
 rw [cardE_cset,cardOf_cset,h]
 rw [h] at hd
 show (g.cards.set c.toNat true).getD (cardOf g a).toNat false=true
 have hd:g.cards.getD (cardOf g a).toNat false=true:=hd
 rw [List.getD_eq_getElem?_getD] at hd ⊢
 rw [List.getElem?_set]
 have:=card_in h
 split
 ·rename_i e
  rw [e,if_pos (by omega)]
  rfl
 ·exact hd
end Go.Abs
namespace Go.Abs
open Go.Proofs Go.Proofs.YtejnngjfjaeiiaaGreatDoor
set_option maxRecDepth 8000
theorem Freed.head {g k:Hp} {a:Int} {cs:List Lists} (f:Freed g k a cs) (u:Int):(headE k u=0↔headE g u=0∧u≠a)∧(headE k u=0→headH k u=headH g u):=by
 have h1:headE k u=0↔headE g u=0∧u≠a:=by
  rw [← mem_usedH,← mem_usedH,f.used,List.mem_filter,decide_eq_true_eq]
 refine ⟨h1,fun h=>?_⟩
 obtain ⟨h2,h3⟩:=h1.1 h
 have hr:=(headE_of h2).2.1
 have hp:=(head_fits h2).2
 have:=f.word u h3 hr 0 (Int.le_refl _) (by omega)
 rw [Int.add_zero] at this
 rw [headH_yes h,headH_yes h2,this]
theorem isDirty_put {g:Hp} {a:Int} {x:Hd} (h:PutOk g a x) (u:Int):isDirty (putH g a x.word) u=isDirty g u:=by
 have e:cardE (putH g a x.word) u=cardE g u:=by
  unfold cardE
  rw [may_put h]
  show (bif _ then (bif decide (16≤u∧u < 16+((g.w.set (a - 16).toNat x.word).length:Int)) then _ else _) else _)=_
  rw [List.length_set]
 have e2:cardOf (putH g a x.word) u=cardOf g u:=by unfold cardOf;rw [e]
 unfold isDirty
 rw [e,e2]
 rfl
theorem used_len (k : Hp) : (usedH k).length ≤ 512 := by
  unfold usedH
  cases mayH k [] with
  | false => exact Nat.zero_le _
  | true =>
    refine Nat.le_trans (List.length_filter_le _ _) ?_
    unfold cellStarts
    rw [List.length_map]
    exact cellsAll_len _
end Go.Abs
namespace Go.Abs
open Go.Proofs Go.Proofs.YtejnngjfjaeiiaaGreatDoor
set_option maxRecDepth 8000
abbrev lightL (l:Lists):Prop:=l.l0.length≤70∧l.l1.length≤70∧l.l2.length≤70
theorem flats_light {L : List Lists} (h : ∀ l ∈ L, lightL l) : (flats L).length ≤ 210 * L.length := by
  induction L with
  | nil => exact Nat.le_refl _
  | cons x r ih =>
    have h1 := h x (List.mem_cons_self ..)
    have h2 := ih fun l hl => h l (List.mem_cons_of_mem _ hl)
    obtain ⟨a, b, c⟩ := h1
    have : (flats (x :: r)).length = x.flat.length + (flats r).length := by unfold flats; rw [List.flatMap_cons, List.length_append]
    have h3 : x.flat.length = x.l0.length + x.l1.length + x.l2.length := by simp [Lists.flat]; omega
    rw [this, h3, List.length_cons]
    omega
theorem few_lightL {g:Hp} (h:fewH g=true):lightL g.free:=by
 have:=of_decide_eq_true h
 exact ⟨by omega,by omega,by omega⟩
theorem flats_few {g:Hp} {cs:List Lists} (hf:fewH g=true) (h4:cs.length≤4) (hcs:∀ l∈cs,lightL l):(flats (lsts g cs)).length≤most:=by
 have h1:=flats_light (L:=g.free :: cs) (by
  intro l hl
  rcases List.mem_cons.1 hl with rfl | hl
  ·exact few_lightL hf
  ·exact hcs l hl)
 rw [List.length_cons] at h1
 show (flats (g.free :: cs)).length≤_
 unfold most
 omega
theorem mem_of_lt {α:Type} [Inhabited α] {l:List α} {p:α→Prop} (h:∀ j,j < l.length→p (l.getD j default)):∀ x∈l,p x:=by
 intro x hx
 obtain ⟨j,hj,rfl⟩:=List.mem_iff_getElem.1 hx
 have:=h j hj
 rw [List.getD_eq_getElem?_getD,List.getElem?_eq_getElem hj] at this
 exact this
end Go.Abs
namespace Go.Abs
open Go.Proofs Go.Proofs.YtejnngjfjaeiiaaGreatDoor
set_option maxRecDepth 8000
theorem may_flats {g:Hp} {cs:List Lists} (h:mayH g cs=true):(flats (lsts g cs)).length≤most:=by
 obtain ⟨h1,h2,h3,h4⟩:=mayH_of h
 have:(flats (lsts g cs)).length≤512:=by
  refine Nat.le_trans (nodup_le h4 (m:=cellStarts g.pages) fun x hx=>?_) (by unfold cellStarts;rw [List.length_map];exact cellsAll_len _)
  obtain ⟨l,hl,hx⟩:=mem_flats.1 hx
  exact mem_starts.2 (by have:=(listed_free (h2 l hl) hx).1;omega)
 unfold most;omega
theorem whole_may {g:Hp} {cs:List Lists} (h:wholeH g cs=true):mayH g cs=true:=by
 unfold wholeH at h;rw [Bool.and_eq_true] at h;exact h.1
theorem sweep_one {g k : Hp} {c d : Col} (s : SwStep g c k d) {cs : List Lists} (hw : wholeH g cs = true) :
    wholeH k cs = true ∧ (∀ u, headE g u = 0 → u ≠ d.seek → headE k u = 0 ∧ headH k u = headH g u) ∧ (d.phase ≠ 6 ∨ c.seek ≤ d.seek) ∧ (usedH k).length ≤ (usedH g).length ∧ (∀ u, headE k u = 0 → headE g u = 0) := by
  cases s with
  | idle => exact ⟨hw, fun u h _ => ⟨h, rfl⟩, .inr (Int.le_refl _), Nat.le_refl _, fun _ h => h⟩
  | pass => exact ⟨hw, fun u h _ => ⟨h, rfl⟩, .inr (Int.le_refl _), Nat.le_refl _, fun _ h => h⟩
  | done => exact ⟨hw, fun u h _ => ⟨h, rfl⟩, (.inl (show (0 : Int) ≠ 6 by decide)), Nat.le_refl _, fun _ h => h⟩
  | stay hm hp hmet hn hl hq hf => exact ⟨hw, fun u h _ => ⟨h, rfl⟩, .inr (Int.le_of_lt hl), Nat.le_refl _, fun _ h => h⟩
  | old hm hp hmet hf h0 p =>
    refine ⟨by rw [whole_put p]; exact hw, fun u h hne => ?_, .inr (Int.le_refl _), by rw [used_put p]; exact Nat.le_refl _, fun u h => by rw [← (put_head p u).1]; exact h⟩
    obtain ⟨e1, e2⟩ := put_head p u
    rw [if_neg hne] at e2
    exact ⟨by rw [e1]; exact h, e2⟩
  | free hm hp hmet hn hl hq hf h0 =>
    have f := freed (whole_may hw) h0
    refine ⟨f.whole hw, fun u h hne => ?_, .inr (Int.le_of_lt hl), by rw [f.used]; exact List.length_filter_le _ _, fun u h => ((f.head u).1.1 h).1⟩
    have h1 := (f.head u).1.2 ⟨h, hne⟩
    exact ⟨h1, (f.head u).2 h1⟩
  | dirty hm hp hmet hn hl hq hf h0 hc =>
    exact ⟨by rw [whole_cset]; exact hw, fun u h _ => ⟨by rw [headE_cset]; exact h, headH_cset _ _ _ _⟩, .inr (Int.le_of_lt hl), by rw [used_cset]; exact Nat.le_refl _, fun u h => by rw [headE_cset] at h; exact h⟩
end Go.Abs
namespace Go.Abs
set_option maxRecDepth 8000
def Fin (g:Hp) (c:Col) (k:Hp) (u:Int):Prop:=(fateH g c u=1∧headE k u≠0)∨(fateH g c u≠1∧headE k u=0∧headH k u=(if fateH g c u=2 then agedH g u else headH g u)∧(fateH g c u=2→isDirty k u=true))
def Kept (g k:Hp) (u:Int):Prop:=headE k u=0∧headH k u=headH g u
structure Flds (g k:Hp):Prop where
 conv:∀ u,headE k u=0→headE g u=0
 word:∀ u,headE k u=0→∀ f,1≤f→f < roomAt g.pages u→wordAt k (u+f)=wordAt g (u+f)
 room:∀ u,roomAt k.pages u≠0→roomAt k.pages u=roomAt g.pages u
 wlen:k.w.length=g.w.length
 clen:k.cards.length=g.cards.length
theorem Kept.fate {g k:Hp} {c d:Col} {u:Int} (h:Kept g k u) (h0:headE g u=0) (h1:d.epoch=c.epoch) (h2:d.major=c.major):fateH k d u=fateH g c u:=by
 unfold fateH
 rw [h.1,h.2,h0,h1,h2]
theorem word_put {g:Hp} {a v u f:Int} (hm:mayH g []=true) (ha:roomAt g.pages a≠0) (hu:roomAt g.pages u≠0) (hf:1≤f∧f < roomAt g.pages u):wordAt (putH g a v) (u+f)=wordAt g (u+f):=by
 obtain ⟨_,_,hs,_⟩:=shapedH_of (mayH_shaped hm)
 obtain ⟨e1,_,e3⟩:=cell_end (roomAt_pos hu)
 have e1:16≤u:=e1
 have e3:u+roomAt g.pages u≤16 * ((g.pages.length:Int)+1):=e3
 rw [wordAt_put hs (room_adr ha) ⟨by omega,by omega⟩,if_neg]
 intro e
 by_cases hne:u=a
 ·omega
 ·have hp:=(cell_end (roomAt_pos ha)).2.1
  have hp:0 < roomAt g.pages a:=hp
  exact apart ha hu hne ⟨by omega,hf.2⟩ ⟨by omega,by omega⟩
theorem Flds.refl (g:Hp):Flds g g:=⟨fun _ h=>h,fun _ _ _ _ _=>rfl,fun _ _=>rfl,rfl,rfl⟩
theorem Flds.step {g k k' : Hp} {d d' : Col} (h : Flds g k) (s : SwStep k d k' d') {cs : List Lists} (hw : wholeH k cs = true) : Flds g k' := by
  cases s with
  | idle | pass | stay | done => exact h
  | old hm hp hmet hf h0 p =>
    refine ⟨fun u hu => h.conv u (by rw [← (put_head p u).1]; exact hu), fun u hu f f1 f2 => ?_, fun u hu => h.room u hu, by show (List.set _ _ _).length = _; rw [List.length_set]; exact h.wlen, h.clen⟩
    have hu : headE k u = 0 := by rw [← (put_head p u).1]; exact hu
    have hr := (headE_of hu).2.1
    rw [word_put hm (headE_of h0).2.1 hr ⟨f1, by rw [h.room u hr]; exact f2⟩]
    exact h.word u hu f f1 f2
  | free hm hp hmet hn hl hq hf h0 =>
    have fr := freed (whole_may hw) h0
    refine ⟨fun u hu => h.conv u ((fr.head u).1.1 hu).1, fun u hu f f1 f2 => ?_, fun u hu => ?_, fr.wlen.trans h.wlen, by rw [fr.cards]; exact h.clen⟩
    · obtain ⟨hu, hne⟩ := (fr.head u).1.1 hu
      have hr := (headE_of hu).2.1
      rw [fr.word u hne hr f (by omega) (by rw [h.room u hr]; exact f2)]
      exact h.word u hu f f1 f2
    · have e := fr.room u hu
      rw [e]
      exact h.room u (by rw [← e]; exact hu)
  | dirty hm hp hmet hn hl hq hf h0 hc => exact ⟨fun u hu => h.conv u (by rw [headE_cset] at hu; exact hu), fun u hu f f1 f2 => h.word u (by rw [headE_cset] at hu; exact hu) f f1 f2, fun u hu => h.room u hu, h.wlen, (cset_len _ _ _).trans h.clen⟩
def behind (k:Hp) (a:Int):Nat:=((cellStarts k.pages).filter fun s=>decide (a < s)).length
def potS (k:Hp) (d:Col):Nat:=2 * behind k d.seek+(if d.met=true then 1 else 0)+1
theorem behind_next {k : Hp} {a n : Int} (hn : n ∈ cellStarts k.pages) (hl : a < n) {S : List Int} (hs : S.Sublist (cellStarts k.pages)) : (S.filter fun s => decide (n < s)).length + 1 ≤ behind k a := by
  unfold behind
  have h1 : (S.filter fun s => decide (n < s)).length ≤ ((cellStarts k.pages).filter fun s => decide (n < s)).length := (hs.filter _).length_le
  have h2 : ((cellStarts k.pages).filter fun s => decide (n < s)).length + 1 ≤ ((cellStarts k.pages).filter fun s => decide (a < s)).length := by
    have hsub : (((cellStarts k.pages).filter fun s => decide (n < s)).length) + ((cellStarts k.pages).filter fun s => decide (s = n)).length ≤ ((cellStarts k.pages).filter fun s => decide (a < s)).length := by
      generalize cellStarts k.pages = L
      induction L with
      | nil => simp
      | cons x r ih =>
        simp only [List.filter_cons]
        by_cases c1 : n < x
        · rw [decide_eq_true c1, decide_eq_false (show ¬ x = n by omega), decide_eq_true (show a < x by omega)]
          simp only [if_true, List.length_cons]
          simp only [Bool.false_eq_true, if_false]
          omega
        · by_cases c2 : x = n
          · rw [decide_eq_false c1, decide_eq_true c2, decide_eq_true (show a < x by omega)]
            simp only [if_true, List.length_cons]
            simp only [Bool.false_eq_true, if_false]
            omega
          · rw [decide_eq_false c1, decide_eq_false c2]
            simp only [Bool.false_eq_true, if_false]
            split
            · rw [List.length_cons]; omega
            · omega
    have : 0 < ((cellStarts k.pages).filter fun s => decide (s = n)).length := List.length_pos_of_mem (List.mem_filter.2 ⟨hn, decide_eq_true rfl⟩)
    omega
  omega
structure SwAt (g:Hp) (c:Col) (cs:List Lists) (k:Hp) (d:Col):Prop where
 ph:d.phase=6
 ep:d.epoch=c.epoch
 mj:d.major=c.major
 whole:wholeH k cs=true
 flds:Flds g k
 lo:∀ u,headE g u=0→(u < d.seek∨(u=d.seek∧d.met=false))→Fin g c k u
 mid:d.met=true→headE g d.seek=0∧fateH g c d.seek=2∧Kept g k d.seek∧isDirty k d.seek=true
 hi:∀ u,headE g u=0→d.seek < u→Kept g k u
structure SwOver (g:Hp) (c:Col) (cs:List Lists) (k:Hp) (d:Col):Prop where
 ph:d.phase=0
 ep:d.epoch=c.epoch
 wk:d.work=[]
 whole:wholeH k cs=true
 flds:Flds g k
 fin:∀ u,headE g u=0→Fin g c k u
theorem Fin.put {g k:Hp} {c:Col} {a u:Int} {x:Hd} (h:Fin g c k u) (p:PutOk k a x) (hne:u≠a):Fin g c (putH k a x.word) u:=by
 obtain ⟨e1,e2⟩:=put_head p u
 rw [if_neg hne] at e2
 rcases h with ⟨h1,h2⟩ | ⟨h1,h2,h3,h4⟩
 ·exact .inl ⟨h1,by rw [e1];exact h2⟩
 ·exact .inr ⟨h1,by rw [e1];exact h2,by rw [e2];exact h3,fun q=>by rw [isDirty_put p];exact h4 q⟩
theorem Fin.freed {g k:Hp} {c:Col} {a u:Int} {cs:List Lists} (h:Fin g c k u) (f:Freed k (freeH k a) a cs) (hne:u≠a):Fin g c (freeH k a) u:=by
 obtain ⟨e1,e2⟩:=f.head u
 rcases h with ⟨h1,h2⟩ | ⟨h1,h2,h3,h4⟩
 ·exact .inl ⟨h1,fun q=>h2 (e1.1 q).1⟩
 ·have h0:=e1.2 ⟨h2,hne⟩
  refine .inr ⟨h1,h0,by rw [e2 h0];exact h3,fun q=>?_⟩
  have:=h4 q
  unfold isDirty cardOf cardE at this ⊢
  rw [may_no f.may,f.wlen,f.cards]
  rw [(headE_of h2).1] at this
  exact this
theorem Fin.cset {g k:Hp} {c:Col} {n u:Int} (h:Fin g c k u):Fin g c (cset k n true) u:=by
 rcases h with ⟨h1,h2⟩ | ⟨h1,h2,h3,h4⟩
 ·exact .inl ⟨h1,by rw [headE_cset];exact h2⟩
 ·refine .inr ⟨h1,by rw [headE_cset];exact h2,by rw [headH_cset];exact h3,fun q=>?_⟩
  have:=h4 q
  have hc:cardE k u=0:=by unfold isDirty at this;rw [Bool.and_eq_true,decide_eq_true_eq] at this;exact this.1
  exact isDirty_cset hc n this
theorem Kept.put {g k:Hp} {a u:Int} {x:Hd} (h:Kept g k u) (p:PutOk k a x) (hne:u≠a):Kept g (putH k a x.word) u:=by
 obtain ⟨e1,e2⟩:=put_head p u
 rw [if_neg hne] at e2
 exact ⟨by rw [e1];exact h.1,by rw [e2];exact h.2⟩
theorem Kept.freed {g k:Hp} {a u:Int} {cs:List Lists} (h:Kept g k u) (f:Freed k (freeH k a) a cs) (hne:u≠a):Kept g (freeH k a) u:=by
 obtain ⟨e1,e2⟩:=f.head u
 have h0:=e1.2 ⟨h.1,hne⟩
 exact ⟨h0,(e2 h0).trans h.2⟩
theorem Kept.cset {g k:Hp} {n u:Int} (h:Kept g k u):Kept g (cset k n true) u:=⟨by rw [headE_cset];exact h.1,by rw [headH_cset];exact h.2⟩
theorem SwAt.step {g k k' : Hp} {c d d' : Col} {cs : List Lists} (h : SwAt g c cs k d) (s : SwStep k d k' d') : (SwAt g c cs k' d' ∧ potS k' d' + 1 ≤ potS k d) ∨ SwOver g c cs k' d' := by
  have fl := h.flds.step s h.whole
  have hmay := whole_may h.whole
  have wh := (sweep_one s h.whole).1
  cases s with
  | idle hn => exact absurd ⟨may_no hmay, h.ph⟩ hn
  | pass hm hp hmet hf =>
    obtain ⟨m1, m2, m3, m4⟩ := h.mid hmet
    exact absurd ((m3.fate m1 h.ep h.mj).trans m2) hf
  | old hm hp hmet hf h0 p =>
    obtain ⟨m1, m2, m3, m4⟩ := h.mid hmet
    refine .inl ⟨⟨h.ph, h.ep, h.mj, wh, fl, fun u hu hlt => ?_, fun q => Bool.noConfusion q, fun u hu hlt => ?_⟩, ?_⟩
    · have hlt : u < d.seek ∨ (u = d.seek ∧ _) := hlt
      by_cases e : u = d.seek
      · subst e
        obtain ⟨e1, e2⟩ := put_head p d.seek
        rw [if_pos rfl] at e2
        refine .inr ⟨by omega, by rw [e1]; exact m3.1, ?_, fun _ => by rw [isDirty_put p]; exact m4⟩
        rw [e2, if_pos m2, agedH, agedH, m3.2]
      · exact (h.lo u hu (.inl (by omega))).put p e
    · have hlt : d.seek < u := hlt
      exact (h.hi u hu hlt).put p (by omega)
    · unfold potS
      rw [hmet]
      show 2 * behind k d.seek + 0 + 1 + 1 ≤ _
      simp
  | free hm hp hmet hn hl hq hf h0 =>
    have f := freed hmay h0
    refine .inl ⟨⟨h.ph, h.ep, h.mj, wh, fl, fun u hu hlt => ?_, fun q => Bool.noConfusion (hmet.symm.trans q), fun u hu hlt => ?_⟩, ?_⟩
    · have hlt : u < nextS k.pages d.seek ∨ (u = nextS k.pages d.seek ∧ _) := hlt
      by_cases e : u = nextS k.pages d.seek
      · have kp := h.hi u hu (by omega)
        refine .inl ⟨?_, fun q => ((f.head u).1.1 q).2 e⟩
        rw [← kp.fate hu h.ep h.mj, e]; exact hf
      · by_cases e2 : u ≤ d.seek
        · exact (h.lo u hu (by by_cases e3 : u = d.seek; exact .inr ⟨e3, hmet⟩; exact .inl (by omega))).freed f e
        · have kp := h.hi u hu (by omega)
          have := hq u (mem_starts.2 (headE_of kp.1).2.1) (by omega)
          omega
    · have hlt : nextS k.pages d.seek < u := hlt
      exact (h.hi u hu (by omega)).freed f (by omega)
    · have := behind_next hn hl f.starts
      unfold potS
      rw [hmet]
      show 2 * behind (freeH k (nextS k.pages d.seek)) (nextS k.pages d.seek) + 0 + 1 + 1 ≤ 2 * behind k d.seek + 0 + 1
      unfold behind at this ⊢
      omega
  | dirty hm hp hmet hn hl hq hf h0 hc =>
    have hg := h.flds.conv _ h0
    have kp := h.hi _ hg hl
    refine .inl ⟨⟨h.ph, h.ep, h.mj, wh, fl, fun u hu hlt => ?_, fun _ => ⟨hg, ?_, kp.cset, dirty_cset hc true⟩, fun u hu hlt => ?_⟩, ?_⟩
    · have hlt : u < nextS k.pages d.seek ∨ (u = nextS k.pages d.seek ∧ true = false) := hlt
      have hlt : u < nextS k.pages d.seek := hlt.resolve_right fun q => Bool.noConfusion q.2
      by_cases e2 : u ≤ d.seek
      · exact (h.lo u hu (by by_cases e3 : u = d.seek; exact .inr ⟨e3, hmet⟩; exact .inl (by omega))).cset
      · have kp := h.hi u hu (by omega)
        have := hq u (mem_starts.2 (headE_of kp.1).2.1) (by omega)
        omega
    · show fateH g c (nextS k.pages d.seek) = 2
      rw [← kp.fate hg h.ep h.mj]; exact hf
    · have hlt : nextS k.pages d.seek < u := hlt
      exact (h.hi u hu (by omega)).cset
    · have := behind_next hn hl (List.Sublist.refl _)
      unfold potS
      rw [hmet]
      show 2 * behind (cset k _ true) (nextS k.pages d.seek) + 1 + 1 + 1 ≤ _
      simp only [Bool.false_eq_true, if_false]
      unfold behind at this ⊢
      show 2 * ((cellStarts k.pages).filter _).length + 1 + 1 + 1 ≤ _
      omega
  | stay hm hp hmet hn hl hq hf =>
    refine .inl ⟨⟨h.ph, h.ep, h.mj, wh, fl, fun u hu hlt => ?_, fun q => Bool.noConfusion (hmet.symm.trans q), fun u hu hlt => ?_⟩, ?_⟩
    · have hlt : u < nextS k.pages d.seek ∨ (u = nextS k.pages d.seek ∧ _) := hlt
      by_cases e2 : u ≤ d.seek
      · exact h.lo u hu (by by_cases e3 : u = d.seek; exact .inr ⟨e3, hmet⟩; exact .inl (by omega))
      · have kp := h.hi u hu (by omega)
        have hge := hq u (mem_starts.2 (headE_of kp.1).2.1) (by omega)
        have e : u = nextS k.pages d.seek := by omega
        have hz : fateH g c u = 0 := by rw [← kp.fate hu h.ep h.mj, e]; exact hf
        exact .inr ⟨by omega, kp.1, by rw [if_neg (by omega)]; exact kp.2, fun q => by omega⟩
    · have hlt : nextS k.pages d.seek < u := hlt
      exact h.hi u hu (by omega)
    · have := behind_next hn hl (List.Sublist.refl _)
      unfold potS
      rw [hmet]
      show 2 * behind k (nextS k.pages d.seek) + 0 + 1 + 1 ≤ 2 * behind k d.seek + 0 + 1
      unfold behind at this ⊢
      omega
  | done hm hp hmet hn =>
    refine .inr ⟨rfl, h.ep, rfl, h.whole, h.flds, fun u hu => ?_⟩
    by_cases e2 : u ≤ d.seek
    · exact h.lo u hu (by by_cases e3 : u = d.seek; exact .inr ⟨e3, hmet⟩; exact .inl (by omega))
    · have kp := h.hi u hu (by omega)
      have := hn u (mem_starts.2 (headE_of kp.1).2.1)
      omega
theorem SwOver.step {g k k' : Hp} {c d d' : Col} {cs:List Lists} (h:SwOver g c cs k d) (s:SwStep k d k' d'):SwOver g c cs k' d':=by
 have hp:=h.ph
 cases s with
 | idle=>exact h
 | pass _ q=>omega
 | old _ q=>omega
 | free _ q=>omega
 | dirty _ q=>omega
 | stay _ q=>omega
 | done _ q=>omega
end Go.Abs
namespace Go.Abs
open Go.Proofs Go.Proofs.YtejnngjfjaeiiaaGreatDoor
set_option maxRecDepth 8000
def Thread.reg (t:Thread) (r:Int):Int:=if r=0 then t.r0 else if r=1 then t.r1 else if r=2 then t.r2 else t.r3
def Thread.ok (t:Thread):Prop:=t.ops.length≤most∧t.cache.l0.length≤most∧t.cache.l1.length≤most∧t.cache.l2.length≤most
def Thread.zero:Thread:=⟨false,0,0,0,0,⟨[],[],[]⟩,0,0,0,[],0,0,0⟩
theorem ArgLe.thread {cs:List CV} {t:Thread} (h:EK.fit .thread cs=some t):ArgLe (.agg cs) t.tv:=.fit .thread cs t h
end Go.Abs
namespace Go.Abs
open Go.Proofs Go.Proofs.YtejnngjfjaeiiaaGreatDoor
set_option maxRecDepth 8000
end Go.Abs
namespace Go.Abs
open Go.Proofs Go.Proofs.YtejnngjfjaeiiaaGreatDoor
set_option maxRecDepth 8000
end Go.Abs
namespace Go.Abs
open Go.Proofs Go.Proofs.YtejnngjfjaeiiaaGreatDoor
set_option maxRecDepth 8000
def Thread.few (t:Thread):Bool:=decide (t.ops.length≤220) && decide (t.cache.l0.length≤70∧t.cache.l1.length≤70∧t.cache.l2.length≤70)
theorem Few12_spec (t:Thread):Spec X 39 [] [t.tv] (Ret [] (.bo t.few)):=by
 refine spec_go X_ok Tryz.f39 (by kernel_rfl) (by kernel_rfl) (by kernel_rfl) fun _ _=>⟨rfl,?_⟩
 have e (n:Nat):decide ((n:Int)≤220)=decide (n≤220):=by rw [decide_eq_decide];omega
 show AIf (decide ((t.ops.length:Int)≤220)=true∧True) _ _
 refine ⟨fun h=>?_,fun h=>?_⟩
 ·show ACall _ _ _ _ _ _
  refine call_ret (Light_spec t.cache) rfl ?_
  show ARet _ _ _
  refine ret_bo (x:=decide (t.cache.l0.length≤70∧t.cache.l1.length≤70∧t.cache.l2.length≤70)) ?_ ⟨rfl,rfl⟩
  unfold Thread.few
  rw [e] at h
  rw [h.1,Bool.true_and]
 ·show AOb (decide ((t.ops.length:Int)≤220)=false) _
  refine ⟨by simpa using h,?_⟩
  show ARet _ _ _
  refine ret_bo (x:=false) ?_ ⟨rfl,rfl⟩
  unfold Thread.few
  rw [e] at h
  have:decide (t.ops.length≤220)=false:=by simpa using h
  rw [this,Bool.false_and]
theorem Thread.ne {a b:Thread}:a=b↔(a.cache=b.cache∧a.live=b.live∧a.r0=b.r0∧a.r1=b.r1∧a.r2=b.r2∧a.r3=b.r3∧a.epoch=b.epoch∧a.stage=b.stage∧a.root=b.root∧a.pc=b.pc∧a.x=b.x∧a.y=b.y)∧a.ops=b.ops:=by
 cases a;cases b;simp;constructor
 ·rintro ⟨h1,h2,h3,h4,h5,h6,h7,h8,h9,h10,h11,h12,h13⟩
  simp [*]
 ·rintro ⟨⟨h1,h2,h3,h4,h5,h6,h7,h8,h9,h10,h11,h12⟩,h13⟩
  simp [*]
theorem Op.same {x y:Op} (h:x.kind=y.kind∧x.a=y.a∧x.b=y.b∧x.c=y.c):x=y:=by
 cases x;cases y;simp at h;simp [h]
end Go.Abs
