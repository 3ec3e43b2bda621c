/- Walks and plain laws: WHandK, WCycleK, WCycleP, WArena2, WScan, WTrace, WHand, WHand2, WHand4, WCycle, WHandRoots, WHandEnds, WRegsObject, WPuts, WRegsTells, WRef15, WCycleA, WCycleB. -/
import Derived.Test.YtejnngjfjaeiiaaGreatDoorPc
import Derived.Test.YtejnngjfjaeiiaaGreatDoorPd
import Derived.Test.YtejnngjfjaeiiaaGreatDoorPa
set_option linter.all false
set_option linter.unusedVariables false
set_option linter.unusedSimpArgs false
namespace Go.Abs
abbrev Thread.mayT (t:Thread):Prop:=0≤t.stage∧t.stage≤3∧0≤t.root∧t.root≤3∧0≤t.pc∧t.pc≤4∧(t.ops.length:Int)≤200∧(t.pc=0∨0 < (t.ops.length:Int))
def wantsH (p:Int):Int:=if p=0 then 0 else if p=1 then 1 else if p=2 then 2 else 3
def answeredB (c:Col) (t:Thread):Bool:=
 if c.phase=0 then true else if c.phase=1 then decide (t.epoch=c.epoch) else if c.phase=2 then decide (t.epoch=c.epoch∧2≤t.stage) else decide (t.epoch=c.epoch∧t.stage=3)
def askedB (c:Col) (t:Thread):Bool:=t.live && (decide t.mayT && (decide (t.pc=0) && !answeredB c t))
def ansKind (c:Col) (t:Thread):Nat:=if askedB c t=true then (if t.epoch≠c.epoch then 1 else if c.phase=2 then 2 else 3) else 0
def ansT (c:Col) (t:Thread):Thread:=match ansKind c t with
 | 0=>t
 | 1=>{ t with epoch:=c.epoch,stage:=1,root:=0 }
 | 2=>{ t with stage:=2 }
 | _=>if t.root=3 then { t with root:=0,stage:=3 } else { t with root:=t.root+1 }
def ansG (g:Hp) (c:Col) (t:Thread):Hp:=if ansKind c t=3 then shadeG g c (t.reg t.root) else g
def ansC (g:Hp) (c:Col) (t:Thread):Col:=if ansKind c t=3 then shadeC g c (t.reg t.root) else c
theorem asked_of {c:Col} {t:Thread} (h:askedB c t=true):t.live=true∧t.mayT∧t.pc=0∧answeredB c t=false:=by
 unfold askedB at h
 rw [Bool.and_eq_true,Bool.and_eq_true,Bool.and_eq_true,decide_eq_true_eq,decide_eq_true_eq,Bool.not_eq_true'] at h
 exact h
theorem asked_mk {c:Col} {t:Thread} (h1:t.live=true) (h2:t.mayT) (h3:t.pc=0) (h4:answeredB c t=false):askedB c t=true:=by
 unfold askedB
 rw [h1,decide_eq_true h2,decide_eq_true h3,h4]
 rfl
theorem asked_not {c:Col} {t:Thread} (h:answeredB c t=true):askedB c t=false:=by
 unfold askedB
 rw [h]
 simp
theorem ans_no {c:Col} {t:Thread} (h:askedB c t=false):ansKind c t=0:=by unfold ansKind;rw [if_neg (by rw [h];decide)]
theorem ansT_no {c:Col} {t:Thread} (h:askedB c t=false):ansT c t=t:=by unfold ansT;rw [ans_no h];rfl
theorem ansG_no {g:Hp} {c:Col} {t:Thread} (h:askedB c t=false):ansG g c t=g:=by unfold ansG;rw [ans_no h];rfl
theorem ans_cases {c:Col} {t:Thread} (h:askedB c t=true) :
  (t.epoch≠c.epoch∧ansKind c t=1∧ansT c t={ t with epoch:=c.epoch,stage:=1,root:=0 }) ∨
  (t.epoch=c.epoch∧c.phase=2∧t.stage < 2∧ansKind c t=2∧ansT c t={ t with stage:=2 }) ∨
  (t.epoch=c.epoch∧c.phase≠0∧c.phase≠1∧c.phase≠2∧t.stage≠3∧ansKind c t=3∧ansT c t=if t.root=3 then { t with root:=0,stage:=3 } else { t with root:=t.root+1 }):=by
 have ha:=(asked_of h).2.2.2
 by_cases h1:t.epoch=c.epoch
 ·by_cases h2:c.phase=2
  ·have hk:ansKind c t=2:=by unfold ansKind;rw [if_pos h,if_neg (fun k=>k h1),if_pos h2]
   refine .inr (.inl ⟨h1,h2,?_,hk,by unfold ansT;rw [hk];rfl⟩)
   unfold answeredB at ha
   rw [if_neg (by omega),if_neg (by omega),if_pos h2] at ha
   have:=of_decide_eq_false ha
   omega
  ·have hk:ansKind c t=3:=by unfold ansKind;rw [if_pos h,if_neg (fun k=>k h1),if_neg h2]
   have h0:c.phase≠0:=by
    intro e
    unfold answeredB at ha
    rw [if_pos e] at ha
    cases ha
   have h0' : c.phase≠1:=by
    intro e
    unfold answeredB at ha
    rw [if_neg h0,if_pos e] at ha
    exact of_decide_eq_false ha h1
   refine .inr (.inr ⟨h1,h0,h0',h2,?_,hk,by unfold ansT;rw [hk];rfl⟩)
   intro e
   unfold answeredB at ha
   rw [if_neg h0,if_neg h0',if_neg h2] at ha
   exact of_decide_eq_false ha ⟨h1,e⟩
 ·have hk:ansKind c t=1:=by unfold ansKind;rw [if_pos h,if_pos h1]
  exact .inl ⟨h1,hk,by unfold ansT;rw [hk];rfl⟩
structure SameT (t u:Thread):Prop where
 live:u.live=t.live
 r0:u.r0=t.r0
 r1:u.r1=t.r1
 r2:u.r2=t.r2
 r3:u.r3=t.r3
 cache:u.cache=t.cache
 ops:u.ops=t.ops
 pc:u.pc=t.pc
 x:u.x=t.x
 y:u.y=t.y
theorem SameT.refl (t:Thread):SameT t t:=⟨rfl,rfl,rfl,rfl,rfl,rfl,rfl,rfl,rfl,rfl⟩
theorem SameT.trans {t u v:Thread} (h:SameT t u) (k:SameT u v):SameT t v:=
 ⟨k.live.trans h.live,k.r0.trans h.r0,k.r1.trans h.r1,k.r2.trans h.r2,k.r3.trans h.r3,k.cache.trans h.cache,k.ops.trans h.ops,k.pc.trans h.pc,k.x.trans h.x,k.y.trans h.y⟩
theorem SameT.reg {t u:Thread} (h:SameT t u) (r:Int):u.reg r=t.reg r:=by unfold Thread.reg;rw [h.r0,h.r1,h.r2,h.r3]
theorem SameT.few {t u:Thread} (h:SameT t u):u.few=t.few:=by unfold Thread.few;rw [h.ops,h.cache]
theorem ansT_same (c:Col) (t:Thread):SameT t (ansT c t):=by
 by_cases h:askedB c t=true
 ·rcases ans_cases h with ⟨_,_,e⟩ | ⟨_,_,_,_,e⟩ | ⟨_,_,_,_,_,_,e⟩
  ·rw [e];exact ⟨rfl,rfl,rfl,rfl,rfl,rfl,rfl,rfl,rfl,rfl⟩
  ·rw [e];exact ⟨rfl,rfl,rfl,rfl,rfl,rfl,rfl,rfl,rfl,rfl⟩
  ·rw [e]
   by_cases h3:t.root=3
   ·rw [if_pos h3];exact ⟨rfl,rfl,rfl,rfl,rfl,rfl,rfl,rfl,rfl,rfl⟩
   ·rw [if_neg h3];exact ⟨rfl,rfl,rfl,rfl,rfl,rfl,rfl,rfl,rfl,rfl⟩
 ·rw [ansT_no (by simpa using h)]
  exact .refl t
theorem ansT_may {c:Col} {t:Thread} (hm:t.mayT):(ansT c t).mayT:=by
 by_cases h:askedB c t=true
 ·obtain ⟨m1,m2,m3,m4,m5,m6,m7,m8⟩:=hm
  rcases ans_cases h with ⟨_,_,e⟩ | ⟨_,_,_,_,e⟩ | ⟨_,_,_,_,_,_,e⟩
  ·rw [e];exact ⟨by show (0:Int)≤1;omega,by show (1:Int)≤3;omega,by show (0:Int)≤0;omega,by show (0:Int)≤3;omega,m5,m6,m7,m8⟩
  ·rw [e];exact ⟨by show (0:Int)≤2;omega,by show (2:Int)≤3;omega,m3,m4,m5,m6,m7,m8⟩
  ·rw [e]
   by_cases h3:t.root=3
   ·rw [if_pos h3];exact ⟨by show (0:Int)≤3;omega,by show (3:Int)≤3;omega,by show (0:Int)≤0;omega,by show (0:Int)≤3;omega,m5,m6,m7,m8⟩
   ·rw [if_neg h3];exact ⟨m1,m2,by show 0≤t.root+1;omega,by show t.root+1≤3;omega,m5,m6,m7,m8⟩
 ·rw [ansT_no (by simpa using h)]
  exact hm
theorem ansC_same (g:Hp) (c:Col) (t:Thread):SameC c (ansC g c t):=by
 unfold ansC
 by_cases h:ansKind c t=3
 ·rw [if_pos h];exact shadeC_same g c _
 ·rw [if_neg h];exact ⟨rfl,rfl,rfl,rfl,rfl,rfl,rfl,rfl⟩
theorem answered_col {c d:Col} (h1:d.phase=c.phase) (h2:d.epoch=c.epoch) (t:Thread):answeredB d t=answeredB c t:=by unfold answeredB;rw [h1,h2]
theorem asked_col {c d:Col} (h1:d.phase=c.phase) (h2:d.epoch=c.epoch) (t:Thread):askedB d t=askedB c t:=by unfold askedB;rw [answered_col h1 h2]
theorem kind_col {c d:Col} (h1:d.phase=c.phase) (h2:d.epoch=c.epoch) (t:Thread):ansKind d t=ansKind c t:=by unfold ansKind;rw [asked_col h1 h2,h1,h2]
theorem ansT_col {c d:Col} (h1:d.phase=c.phase) (h2:d.epoch=c.epoch) (t:Thread):ansT d t=ansT c t:=by unfold ansT;rw [kind_col h1 h2,h2]
def rem (c:Col) (t:Thread):Nat:=if askedB c t=true then (if t.epoch≠c.epoch then (if c.phase=1 then 1 else if c.phase=2 then 2 else 5) else if c.phase=2 then 1 else (4 - t.root).toNat) else 0
structure Ans (g:Hp) (c:Col) (t:Thread) (n:Nat) (k:Hp) (d:Col) (u:Thread):Prop where
 few:fewH k=fewH g
 len:k.w.length=g.w.length
 work:d.work.length≤c.work.length+n
 col:SameC c d
 thr:SameT t u
 may:t.mayT→u.mayT
 white:∀ a,atK k c a=1→atK g c a=1
 word:∀ i:Nat,k.w.getD i default≠g.w.getD i default→atK g c (16+(i:Int))=1
theorem Ans.start (g:Hp) (c:Col) (t:Thread):Ans g c t 0 g c t:=
 ⟨rfl,rfl,Nat.le_refl _,⟨rfl,rfl,rfl,rfl,rfl,rfl,rfl,rfl⟩,.refl t,id,fun _ h=>h,fun _ h=>absurd rfl h⟩
theorem SameC.trans {c d e:Col} (h:SameC c d) (k:SameC d e):SameC c e:=
 ⟨k.phase.trans h.phase,k.epoch.trans h.epoch,k.major.trans h.major,k.at_.trans h.at_,k.field_.trans h.field_,k.seek.trans h.seek,k.card.trans h.card,k.met.trans h.met⟩
theorem SameC.at {c d:Col} (h:SameC c d) (g:Hp) (a:Int):atK g d a=atK g c a:=atK_col h.epoch h.major g a
theorem shadeC_len (g:Hp) (c:Col) (a:Int):(shadeC g c a).work.length≤c.work.length+1:=by
 by_cases h:atK g c a=1
 ·rw [shadeC_yes h]
  split
  ·show (c.work ++ [a]).length≤_
   rw [List.length_append]
   exact Nat.le_refl _
  ·exact Nat.le_succ _
 ·rw [shadeC_no h]
  exact Nat.le_succ _
theorem Ans.step {g:Hp} {c:Col} {t:Thread} {n:Nat} {k:Hp} {d:Col} {u:Thread} (h:Ans g c t n k d u):Ans g c t (n+1) (ansG k d u) (ansC k d u) (ansT d u):=by
 have hT:=ansT_same d u
 have hC:=ansC_same k d u
 by_cases hk:ansKind d u=3
 ·have eG:ansG k d u=shadeG k d (u.reg u.root):=if_pos hk
  have eC:ansC k d u=shadeC k d (u.reg u.root):=if_pos hk
  obtain ⟨r1,r2,r3,r4⟩:=shadeG_rest k d (u.reg u.root)
  have hlen:=shadeC_len k d (u.reg u.root)
  refine ⟨?_,?_,?_,h.col.trans hC,h.thr.trans hT,fun hm=>ansT_may (h.may hm),fun a ha=>?_,fun i hi=>?_⟩
  ·rw [eG,shadeG_few,h.few]
  ·rw [eG,r4,h.len]
  ·rw [eC];have:=h.work;omega
  ·apply h.white
   rw [eG,← h.col.at,atK_shade,h.col.at,h.col.at] at ha
   by_cases e:a=u.reg u.root∧atK k c (u.reg u.root)=1
   ·rw [if_pos e] at ha;exact absurd ha (by decide)
   ·rw [if_neg e] at ha;exact ha
  ·by_cases e:(shadeG k d (u.reg u.root)).w.getD i default=k.w.getD i default
   ·rw [eG,e] at hi
    exact h.word i hi
   ·obtain ⟨e1,e2⟩:=shadeG_word k d (u.reg u.root) i e
    rw [h.col.at] at e2
    rw [show 16+(i:Int)=u.reg u.root by omega]
    exact h.white _ e2
 ·have eG:ansG k d u=k:=if_neg hk
  have eC:ansC k d u=d:=if_neg hk
  rw [eG,eC]
  refine ⟨h.few,h.len,by have:=h.work;omega,h.col,h.thr.trans hT,fun hm=>ansT_may (h.may hm),h.white,h.word⟩
theorem shade_nonwhite (g:Hp) (c:Col) (a u:Int) (h:atK g c u≠1):atK (shadeG g c a) c u≠1:=by
 rw [atK_shade]
 by_cases e:u=a∧atK g c a=1
 ·rw [if_pos e];decide
 ·rw [if_neg e];exact h
theorem shade_self (g:Hp) (c:Col) (a:Int):atK (shadeG g c a) c a≠1:=by
 rw [atK_shade]
 by_cases e:atK g c a=1
 ·rw [if_pos ⟨rfl,e⟩];decide
 ·rw [if_neg (fun k=>e k.2)];exact e
inductive Roots (c:Col) (n:Nat) (k:Hp) (u:Thread):Prop
 | new (h:n=0) (he:u.epoch≠c.epoch) (ha:askedB c u=true)
 | at_ (he:u.epoch=c.epoch) (ha:askedB c u=true) (hn:(n:Int)≤u.root+1) (hw:∀ r,0≤r→r < u.root→atK k c (u.reg r)≠1)
 | done (ha:askedB c u=false) (hs:u.stage=3) (hr:u.root=0) (hw:∀ r,0≤r→r≤3→atK k c (u.reg r)≠1)
theorem Roots.start {c:Col} {k:Hp} {u:Thread} (ha:askedB c u=true) (h0:u.root=0):Roots c 0 k u:=by
 by_cases he:u.epoch=c.epoch
 ·exact .at_ he ha (by omega) (fun r h1 h2=>by omega)
 ·exact .new rfl he ha
theorem Roots.step {c d : Col} {n : Nat} {k : Hp} {u : Thread} (hc : SameC c d) (hp : 3 ≤ c.phase) (h : Roots c n k u) : Roots c (n + 1) (ansG k d u) (ansT d u) := by
  have hT : ansT d u = ansT c u := ansT_col hc.phase hc.epoch u
  have hK : ansKind d u = ansKind c u := kind_col hc.phase hc.epoch u
  have hans : ∀ v : Thread, v.epoch = c.epoch → v.stage ≠ 3 → answeredB c v = false := fun v h1 h2 => by
    unfold answeredB
    rw [if_neg (by omega), if_neg (by omega), if_neg (by omega)]
    exact decide_eq_false fun x => h2 x.2
  rw [hT]
  cases h with
  | new h he ha =>
    obtain ⟨hl, hm, hpc, _⟩ := asked_of ha
    rcases ans_cases ha with ⟨_, hk, e⟩ | ⟨h1, _⟩ | ⟨h1, _⟩
    · have hep : (ansT c u).epoch = c.epoch := by rw [e]
      have hro : (ansT c u).root = 0 := by rw [e]
      have hst : (ansT c u).stage = 1 := by rw [e]
      have hs := ansT_same c u
      exact .at_ hep (asked_mk (hs.live.trans hl) (ansT_may hm) (hs.pc.trans hpc) (hans _ hep (by omega))) (by omega) (fun r h1 h2 => by omega)
    · exact absurd h1 he
    · exact absurd h1 he
  | at_ he ha hn hw =>
    obtain ⟨hl, hm, hpc, _⟩ := asked_of ha
    rcases ans_cases ha with ⟨h1, _⟩ | ⟨_, h2, _⟩ | ⟨_, _, _, _, hst, hk, e⟩
    · exact absurd he h1
    · omega
    · have hs := ansT_same c u
      have hG : ansG k d u = shadeG k d (u.reg u.root) := by unfold ansG; rw [hK, if_pos hk]
      have hold : ∀ r, 0 ≤ r → r ≤ u.root → atK (shadeG k d (u.reg u.root)) c (u.reg r) ≠ 1 := fun r h1 h2 => by
        by_cases e : r = u.root
        · subst e
          rw [← hc.at]
          exact shade_self k d _
        · have := hw r h1 (by omega)
          rw [← hc.at] at this ⊢
          exact shade_nonwhite k d _ _ this
      rw [hG]
      by_cases h3 : u.root = 3
      · rw [if_pos h3] at e
        have hst' : (ansT c u).stage = 3 := by rw [e]
        refine .done (asked_not ?_) hst' (by rw [e]) fun r h1 h2 => ?_
        · unfold answeredB
          rw [if_neg (by omega), if_neg (by omega), if_neg (by omega), hst', show (ansT c u).epoch = c.epoch by rw [e]; exact he]
          simp
        · rw [hs.reg]
          exact hold r h1 (by omega)
      · rw [if_neg h3] at e
        have hro : (ansT c u).root = u.root + 1 := by rw [e]
        have hep : (ansT c u).epoch = c.epoch := by rw [e]; exact he
        refine .at_ hep (asked_mk (hs.live.trans hl) (ansT_may hm) (hs.pc.trans hpc) (hans _ hep (by rw [e]; exact hst))) (by rw [hro]; omega) fun r h1 h2 => ?_
        rw [hs.reg]
        exact hold r h1 (by omega)
  | done ha hs hr hw =>
    have hd : askedB d u = false := by rw [asked_col hc.phase hc.epoch]; exact ha
    rw [ansT_no ha, ansG_no hd]
    exact .done ha hs hr hw
theorem Roots.last {c : Col} {k : Hp} {u : Thread} (h : Roots c 6 k u) : u.stage = 3 ∧ u.root = 0 ∧ ∀ r, 0 ≤ r → r ≤ 3 → atK k c (u.reg r) ≠ 1 := by
  cases h with
  | new h _ _ => omega
  | at_ he ha hn hw =>
    have := (asked_of ha).2.1
    obtain ⟨_, _, _, h4, _⟩ := this
    omega
  | done ha hs hr hw => exact ⟨hs, hr, hw⟩
def allB (c:Col) (l:List Thread):Bool:=l.all fun t=>!t.live || answeredB c t
end Go.Abs
namespace Go.Abs
set_option maxRecDepth 8000
def mayC (c:Col):Bool:=decide (0≤c.phase∧c.phase≤6∧(if c.phase=0 then 0 else 1)≤c.epoch∧c.epoch≤1048576∧(c.work.length:Int)≤4)
def Col.none:Col:=⟨0,0,false,[],false,0,0,0,0,false⟩
def startE (c:Col):Int:=if mayC c=true then (if c.phase=0 then (if c.epoch=1048576 then 2 else 0) else 4) else 1
def startC (c:Col) (major:Bool):Col:=if startE c=0 then ⟨1,c.epoch+1,major,[],false,0,0,0,0,false⟩ else Col.none
def nextP (c:Col):Col:=if c.phase=3 then { c with phase:=if c.major=true then 5 else 4,at_:=0,field_:=0,seek:=0,card:=0,met:=false } else { c with phase:=c.phase+1 }
def waitC (c:Col) (l:List Thread):Col:=if allB c l=true then nextP c else c
def cycS (g:Hp) (c:Col) (l:List Thread):Hp × Col:=
 if mayC c=true∧c.phase≠0 then
  (if c.phase=4 then scanS g c else if c.phase=5 then traceS g c else if c.phase=6 then sweepS g c else (g,waitC c l))
 else (g,c)
inductive CStep (g:Hp) (c:Col) (l:List Thread):Hp→Col→Prop
 | idle (h:¬ (mayC c=true∧c.phase≠0)):CStep g c l g c
 | stay (hm:mayC c=true) (h1:1≤c.phase) (h3:c.phase≤3) (ha:allB c l=false):CStep g c l g c
 | next (hm:mayC c=true) (h1:1≤c.phase) (h3:c.phase≤3) (ha:allB c l=true):CStep g c l g (nextP c)
 | scan (hm:mayC c=true) (hp:c.phase=4) {k:Hp} {d:Col} (s:SStep g c k d):CStep g c l k d
 | trace (hm:mayC c=true) (hp:c.phase=5) {k:Hp} {d:Col} (s:TStep g c k d):CStep g c l k d
 | sweep (hm:mayC c=true) (hp:c.phase=6) {k:Hp} {d:Col} (s:SwStep g c k d):CStep g c l k d
theorem may_c {c:Col} (h:mayC c=true):0≤c.phase∧c.phase≤6∧0≤c.epoch∧(c.phase≠0→1≤c.epoch)∧c.epoch≤1048576∧c.work.length≤4:=by
 obtain ⟨h1,h2,h3,h4,h5⟩:=of_decide_eq_true h
 refine ⟨h1,h2,?_,fun hp=>?_,h4,by omega⟩
 ·by_cases hp:c.phase=0
  ·rw [if_pos hp] at h3;omega
  ·rw [if_neg hp] at h3;omega
 ·rw [if_neg hp] at h3;omega
theorem may_mk {c:Col} (h1:0≤c.phase) (h2:c.phase≤6) (h3:0≤c.epoch) (h4:c.phase≠0→1≤c.epoch) (h5:c.epoch≤1048576) (h6:c.work.length≤4):mayC c=true:=by
 refine decide_eq_true ⟨h1,h2,?_,h5,by omega⟩
 by_cases hp:c.phase=0
 ·rw [if_pos hp];omega
 ·rw [if_neg hp];exact h4 hp
theorem cyc_step (g:Hp) (c:Col) (l:List Thread):CStep g c l (cycS g c l).1 (cycS g c l).2:=by
 unfold cycS
 by_cases h:mayC c=true∧c.phase≠0
 ·rw [if_pos h]
  obtain ⟨hm,h0⟩:=h
  obtain ⟨m1,m2,_⟩:=may_c hm
  by_cases h4:c.phase=4
  ·rw [if_pos h4];exact .scan hm h4 (scan_step g c)
  ·rw [if_neg h4]
   by_cases h5:c.phase=5
   ·rw [if_pos h5];exact .trace hm h5 (trace_step g c)
   ·rw [if_neg h5]
    by_cases h6:c.phase=6
    ·rw [if_pos h6];exact .sweep hm h6 (sweep_step g c)
    ·rw [if_neg h6]
     show CStep g c l g (waitC c l)
     unfold waitC
     cases ha:allB c l with
     | true=>rw [if_pos rfl];exact .next hm (by omega) (by omega) ha
     | false=>rw [if_neg (by decide)];exact .stay hm (by omega) (by omega) ha
 ·rw [if_neg h];exact .idle h
theorem shadeC_work (g:Hp) (c:Col) (v:Int) (h:c.work.length≤4):(shadeC g c v).work.length≤4:=by
 by_cases e:atK g c v=1
 ·rw [shadeC_yes e]
  split
  ·show (c.work ++ [v]).length≤_
   rw [List.length_append,List.length_singleton]
   omega
  ·exact h
 ·rw [shadeC_no e];exact h
theorem met_work4 (g:Hp) (c:Col) (v:Int) (h:c.work.length≤4):(metS g c v).2.work.length≤4:=by
 rcases met_cases g c v with ⟨_,e⟩ | ⟨_,e⟩ <;> rw [e]
 ·exact shadeC_work g c v h
 ·exact h
theorem SStep.col {g k:Hp} {c d:Col} (s:SStep g c k d):d.epoch=c.epoch∧d.major=c.major∧(d.phase=c.phase∨c.phase=4∧d.phase=5)∧(c.work.length≤4→d.work.length≤4):=by
 cases s
 case last v hv=>obtain ⟨e1,e2,e3,_⟩:=met_col g c v;exact ⟨e2,e3,.inl e1,met_work4 g c v⟩
 case more v hv=>obtain ⟨e1,e2,e3,_⟩:=met_col g c v;exact ⟨e2,e3,.inl e1,met_work4 g c v⟩
 case fin=>exact ⟨rfl,rfl,.inr ⟨by assumption,rfl⟩,id⟩
 all_goals exact ⟨rfl,rfl,.inl rfl,id⟩
theorem TStep.work4 {g k:Hp} {c d:Col} (h:TStep g c k d) (h1:c.work.length≤4):d.work.length≤4:=by
 cases h
 case last v hv=>exact shadeC_work g c v h1
 case more v hv=>exact shadeC_work g c v h1
 case pop r x hw=>
  rw [hw,List.length_append] at h1
  show r.length≤_
  omega
 all_goals exact h1
theorem SwStep.ph {g k:Hp} {c d:Col} (s:SwStep g c k d):d.phase=c.phase∨c.phase=6∧d.phase=0:=by
 cases s <;> first | exact .inl rfl | exact .inr ⟨by assumption,rfl⟩
theorem CStep.col {g k:Hp} {c d:Col} {l:List Thread} (s:CStep g c l k d) :
  d.epoch=c.epoch∧d.major=c.major∧(d.phase=c.phase∧(c.phase=0∨mayC c=false∨4≤c.phase∨allB c l=false) ∨
   (1≤c.phase∧c.phase≤2∧allB c l=true∧d.phase=c.phase+1)∨(c.phase=3∧allB c l=true∧d.phase=if c.major=true then 5 else 4)∨(4≤c.phase∧c.phase≤5∧d.phase=c.phase+1)∨(c.phase=6∧d.phase=0))∧(c.work.length≤4→d.work.length≤4):=by
 cases s
 case idle h=>
  refine ⟨rfl,rfl,.inl ⟨rfl,?_⟩,id⟩
  by_cases h0:c.phase=0
  ·exact .inl h0
  ·exact .inr (.inl (by simpa using fun k=>h ⟨k,h0⟩))
 case stay ha=>exact ⟨rfl,rfl,.inl ⟨rfl,.inr (.inr (.inr (by assumption)))⟩,id⟩
 case next hm h1 h3 ha=>
  unfold nextP
  by_cases hp:c.phase=3
  ·rw [if_pos hp]
   exact ⟨rfl,rfl,.inr (.inr (.inl ⟨hp,ha,rfl⟩)),id⟩
  ·rw [if_neg hp]
   exact ⟨rfl,rfl,.inr (.inl ⟨h1,by omega,ha,rfl⟩),id⟩
 case scan hm hp s=>
  obtain ⟨e1,e2,e3,e4⟩:=s.col
  refine ⟨e1,e2,?_,e4⟩
  rcases e3 with e | ⟨_,e⟩
  ·exact .inl ⟨e,.inr (.inr (.inl (by omega)))⟩
  ·exact .inr (.inr (.inr (.inl ⟨by omega,by omega,by omega⟩)))
 case trace hm hp s=>
  obtain ⟨e1,e2,e3⟩:=s.col
  refine ⟨e1,e2,?_,s.work4⟩
  rcases e3 with e | ⟨_,e⟩
  ·exact .inl ⟨e,.inr (.inr (.inl (by omega)))⟩
  ·exact .inr (.inr (.inr (.inl ⟨by omega,by omega,by omega⟩)))
 case sweep hm hp s=>
  obtain ⟨e1,e2⟩:=s.col
  refine ⟨e1,e2,?_,fun h=>?_⟩
  ·rcases s.ph with e | e
   ·exact .inl ⟨e,.inr (.inr (.inl (by omega)))⟩
   ·exact .inr (.inr (.inr (.inr e)))
  ·rcases s.work with e | e <;> rw [e]
   ·exact h
   ·exact Nat.zero_le _
theorem CStep.mayc {g k:Hp} {c d:Col} {l:List Thread} (s:CStep g c l k d) (hm:mayC c=true):mayC d=true:=by
 obtain ⟨m1,m2,m3,m4,m5,m6⟩:=may_c hm
 obtain ⟨e1,e2,e3,e4⟩:=s.col
 have hb:0≤d.phase∧d.phase≤6∧(d.phase≠0→c.phase≠0):=by
  rcases e3 with ⟨e,_⟩ | ⟨_,_,_,e⟩ | ⟨_,_,e⟩ | ⟨_,_,e⟩ | ⟨_,e⟩
  ·rw [e];exact ⟨m1,m2,id⟩
  ·omega
  ·split at e <;> omega
  ·omega
  ·omega
 exact may_mk hb.1 hb.2.1 (by omega) (fun h=>by rw [e1];exact m4 (hb.2.2 h)) (by omega) (e4 m6)
theorem CStep.light {g k:Hp} {c d:Col} {l:List Thread} (s:CStep g c l k d) (h:g.light):k.light:=by
 cases s
 case scan s=>have:=s.keep.free;unfold Hp.light;rw [this];exact h
 case trace s=>have:=s.marks.free;unfold Hp.light;rw [this];exact h
 case sweep s=>exact s.light h
 all_goals exact h
theorem CStep.small {g k:Hp} {c d:Col} {l:List Thread} (s:CStep g c l k d) (h:g.small):k.small:=by
 cases s
 case scan s=>have q:=s.keep;unfold Hp.small;rw [q.free,q.wlen,q.clen,q.pages];exact h
 case trace s=>have q:=s.marks;unfold Hp.small;rw [q.free,q.len,q.pages,q.cards];exact h
 case sweep s=>exact s.small h
 all_goals exact h
theorem CStep.wlen {g k:Hp} {c d:Col} {l:List Thread} (s:CStep g c l k d):k.w.length=g.w.length:=by
 cases s
 case scan s=>exact s.keep.wlen
 case trace s=>exact s.marks.len
 case sweep s=>
  cases s with
  | old=>exact List.length_set
  | free hm hp hmet hn hl hq hf h0=>exact (freed hm h0).wlen
  | _=>rfl
 all_goals rfl
theorem CStep.may {g k:Hp} {c d:Col} {l:List Thread} (s:CStep g c l k d) (h:mayH g []=true):mayH k []=true:=by
 cases s
 case scan s=>rw [s.keep.may];exact h
 case trace s=>rw [s.marks.may];exact h
 case sweep s=>
  cases s with
  | old hm hp hmet hf h0 p=>rw [may_put p];exact h
  | free hm hp hmet hn hl hq hf h0=>exact (freed hm h0).may
  | dirty=>rw [may_cset];exact h
  | _=>exact h
 all_goals exact h
end Go.Abs
namespace Go.Abs
set_option maxRecDepth 8000
def scW (g:Hp) (card seek u:Int):Int:=if 16+8 * card+8≤u∨(16+8 * card≤u∧seek < u) then (headH g u).n+2 else 0
def scA (g:Hp) (c:Col):Int:=if c.at_=0 then 0 else if headE g c.at_=0∧0≤c.field_∧c.field_ < (headH g c.at_).n then (headH g c.at_).n - c.field_+1 else 1
def phi4 (g:Hp) (c:Col):Int:=sumI (usedH g) (scW g c.card c.seek)+3 * ((g.cards.length:Int) - c.card)+(if c.seek=0 then 0 else scA g c - 1)
theorem scW_nonneg {g:Hp} {card seek u:Int} (hu:headE g u=0):0≤scW g card seek u:=by
 unfold scW
 have:=(head_fits hu).2.1
 split <;> omega
theorem scS_nonneg (g:Hp) (card seek:Int):0≤sumI (usedH g) (scW g card seek):=sumI_nonneg fun u hu=>scW_nonneg (mem_usedH.1 hu)
theorem scS_mono (g:Hp) {card seek card' seek' : Int} (h:∀ u,(16+8 * card'+8≤u∨(16+8 * card'≤u∧seek' < u))→(16+8 * card+8≤u∨(16+8 * card≤u∧seek < u))):sumI (usedH g) (scW g card' seek')≤sumI (usedH g) (scW g card seek):=by
 refine sumI_le fun u hu=>?_
 have hn:=(head_fits (mem_usedH.1 hu)).2.1
 unfold scW
 by_cases k:(16+8 * card'+8≤u∨(16+8 * card'≤u∧seek' < u))
 ·rw [if_pos k,if_pos (h u k)];exact Int.le_refl _
 ·rw [if_neg k]
  split <;> omega
theorem scS_next (g:Hp) {card seek a:Int} (ha:headE g a=0) (h1:16+8 * card≤a) (h2:a < 16+8 * card+8) (h3:seek < a):sumI (usedH g) (scW g card a)+((headH g a).n+2)≤sumI (usedH g) (scW g card seek):=by
 have hin:=mem_usedH.2 ha
 have e:=sumI_one (used_nodup g) (f:=scW g card seek) (h:=fun u=>if u=a then 0 else scW g card seek u) hin fun x _ hx=>if_neg hx
 have e1:scW g card seek a=(headH g a).n+2:=by unfold scW;rw [if_pos (.inr ⟨h1,h3⟩)]
 have e2:sumI (usedH g) (scW g card a)≤sumI (usedH g) (fun u=>if u=a then 0 else scW g card seek u):=by
  refine sumI_le fun u hu=>?_
  have hn:=(head_fits (mem_usedH.1 hu)).2.1
  unfold scW
  by_cases k:u=a
  ·rw [if_pos k,if_neg (by omega)];exact Int.le_refl _
  ·rw [if_neg k]
   split
   ·rw [if_pos (by omega)];exact Int.le_refl _
   ·split <;> omega
 simp only [if_true] at e
 omega
theorem scA_cases (g:Hp) (c:Col):(c.at_=0∧scA g c=0)∨(c.at_≠0∧1≤scA g c∧scA g c≤65):=by
 unfold scA
 by_cases h:c.at_=0
 ·exact .inl ⟨h,if_pos h⟩
 ·refine .inr ⟨h,?_⟩
  rw [if_neg h]
  split
  ·rename_i k
   have:=(may_range (head_may k.1).1).1.2
   omega
  ·omega
theorem scS_same {g k:Hp} (hu:usedH k=usedH g) (hn:∀ u,(headH k u).n=(headH g u).n) (card seek:Int):sumI (usedH k) (scW k card seek)=sumI (usedH g) (scW g card seek):=by
 rw [hu]
 exact sumI_congr fun u _=>by unfold scW;rw [hn]
theorem phi4_step {g k:Hp} {c d:Col} (s:SStep g c k d) (hm:mayH g []=true) (hp:c.phase=4) (h0:0≤c.card):(d.phase=4∧0≤d.card∧phi4 k d+1≤phi4 g c)∨(d.phase=5∧d.at_=0∧d.seek=0∧d.work=c.work):=by
 have q:=s.keep
 have same:∀ card seek,sumI (usedH k) (scW k card seek)=sumI (usedH g) (scW g card seek):=scS_same q.used fun u=>(q.head u).2.2.1
 cases s
 case idle h=>exact absurd ⟨hm,hp,h0⟩ h
 case fin=>exact .inr ⟨rfl,rfl,rfl,rfl⟩
 case clean _ _ hc hs hd=>
  refine .inl ⟨hp,h0,?_⟩
  unfold phi4
  rw [same,q.clen]
  show sumI (usedH g) (scW g c.card 1)+3 * (_ - c.card)+(if (1:Int)=0 then 0 else scA _ { c with seek:=1,met:=false,at_:=0,field_:=0 } - 1)+1≤_
  rw [if_neg (by decide),if_pos (by assumption)]
  have e:scA (cset g c.card false) { c with seek:=1,met:=false,at_:=0,field_:=0 }=0:=if_pos rfl
  have hm:=scS_mono g (card:=c.card) (seek:=c.seek) (card':=c.card) (seek':=1) (by omega)
  omega
 case skip _ _ hc hs hd=>
  refine .inl ⟨hp,by show 0≤c.card+1;omega,?_⟩
  unfold phi4
  show sumI (usedH g) (scW g (c.card+1) c.seek)+3 * (_ - (c.card+1))+(if c.seek=0 then 0 else _)+1≤_
  have hs:c.seek=0:=by assumption
  rw [if_pos hs,if_pos hs]
  have hm:=scS_mono g (card:=c.card) (seek:=c.seek) (card':=c.card+1) (seek':=c.seek) (by omega)
  omega
 case lost _ _ hc hs ha hf=>
  refine .inl ⟨hp,h0,?_⟩
  unfold phi4
  show sumI (usedH g) (scW g c.card c.seek)+3 * (_ - c.card)+(if c.seek=0 then 0 else scA g { c with at_:=0,field_:=0 } - 1)+1≤_
  rw [if_neg hs,if_neg hs]
  have e:scA g { c with at_:=0,field_:=0 }=0:=if_pos rfl
  rcases scA_cases g c with ⟨h,_⟩ | ⟨_,h,_⟩
  ·exact absurd h ha
  ·omega
 case last _ _ hc hs ha hE hf hl v hv=>
  obtain ⟨e1,e2,e3,e4,e5,e6,e7⟩:=met_col g c v
  refine .inl ⟨e1.trans hp,by show 0≤(metS g c v).2.card;rw [e7];exact h0,?_⟩
  unfold phi4
  rw [same,q.clen]
  show sumI (usedH g) (scW g (metS g c v).2.card (metS g c v).2.seek)+3 * (_ - (metS g c v).2.card)+(if (metS g c v).2.seek=0 then 0 else scA (metS g c v).1 { (metS g c v).2 with at_:=0,field_:=0 } - 1)+1≤_
  rw [e6,e7,if_neg hs,if_neg hs]
  have e:scA (metS g c v).1 { (metS g c v).2 with at_:=0,field_:=0 }=0:=if_pos rfl
  rcases scA_cases g c with ⟨h,_⟩ | ⟨_,h,_⟩
  ·exact absurd h ha
  ·omega
 case more _ _ hc hs ha hE hf hl v hv=>
  obtain ⟨e1,e2,e3,e4,e5,e6,e7⟩:=met_col g c v
  refine .inl ⟨e1.trans hp,by show 0≤(metS g c v).2.card;rw [e7];exact h0,?_⟩
  unfold phi4
  rw [same,q.clen]
  show sumI (usedH g) (scW g (metS g c v).2.card (metS g c v).2.seek)+3 * (_ - (metS g c v).2.card)+(if (metS g c v).2.seek=0 then 0 else scA (metS g c v).1 { (metS g c v).2 with field_:=c.field_+1 } - 1)+1≤_
  rw [e6,e7,if_neg hs,if_neg hs]
  have hn:(headH (metS g c v).1 c.at_).n=(headH g c.at_).n:=(q.head c.at_).2.2.1
  have hEk:headE (metS g c v).1 c.at_=0:=by rw [q.headE];exact hE
  have e:scA (metS g c v).1 { (metS g c v).2 with field_:=c.field_+1 }=(headH g c.at_).n - (c.field_+1)+1:=by
   unfold scA
   show (if (metS g c v).2.at_=0 then _ else if headE _ (metS g c v).2.at_=0∧0≤c.field_+1∧c.field_+1 < (headH _ (metS g c v).2.at_).n then (headH _ (metS g c v).2.at_).n - (c.field_+1)+1 else 1)=_
   rw [e4,if_neg ha,hn,if_pos ⟨hEk,by omega,by omega⟩]
  have e' : scA g c=(headH g c.at_).n - c.field_+1:=by
   unfold scA
   rw [if_neg ha,if_pos ⟨hE,hf,by omega⟩]
  omega
 case next _ _ hc hs ha a hn=>
  obtain ⟨n1,n2,n3,n4⟩:=nextO_some hn
  obtain ⟨m1,m2,m3⟩:=(mem_onH h0 hc).1 n1
  refine .inl ⟨hp,h0,?_⟩
  have hne:a≠0:=by omega
  unfold phi4
  show sumI (usedH g) (scW g c.card a)+3 * (_ - c.card)+(if a=0 then 0 else scA g { c with at_:=a,field_:=0,seek:=a } - 1)+1≤_
  rw [if_neg hne,if_neg hs]
  have hnn:=(head_fits m1).2.1
  have e:scA g { c with at_:=a,field_:=0,seek:=a }≤(headH g a).n+1:=by
   unfold scA
   show (if a=0 then _ else if headE g a=0∧(0:Int)≤0∧0 < (headH g a).n then (headH g a).n - 0+1 else 1)≤_
   rw [if_neg hne]
   split <;> omega
  have e' : scA g c=0:=if_pos ha
  have:=scS_next g (card:=c.card) m1 (by omega) (by omega) n2
  omega
 case done _ _ hc hs ha hn=>
  refine .inl ⟨hp,by show 0≤c.card+1;omega,?_⟩
  unfold phi4
  rw [same,q.clen]
  show sumI (usedH g) (scW g (c.card+1) 0)+3 * (_ - (c.card+1))+(if (0:Int)=0 then 0 else _)+1≤_
  rw [if_pos rfl,if_neg hs]
  have e' : scA g c=0:=if_pos ha
  have hm:=scS_mono g (card:=c.card) (seek:=c.seek) (card':=c.card+1) (seek':=0) (by omega)
  omega
theorem used_half {g:Hp} (hm:mayH g []=true):2 * ((usedH g).length:Int)≤(g.w.length:Int)∧2 * numC g≤(g.w.length:Int)∧sumI (usedH g) (roomAt g.pages)≤(g.w.length:Int):=by
 obtain ⟨_,hmp,hsl,_,_,h64⟩:=shapedH_of (mayH_shaped hm)
 have hC:=starts_half hmp
 have hrm:=rooms_all hmp
 have hU:((usedH g).length:Int)≤numC g:=by
  unfold numC
  rw [usedH_eq hm]
  have:=List.length_filter_le (fun a=>wordAt g a != 0) (cellStarts g.pages)
  omega
 have h2:sumI (usedH g) (roomAt g.pages)≤sumI (cellStarts g.pages) (roomAt g.pages):=by
  rw [usedH_eq hm]
  exact sumI_filter _ fun x _=>roomAt_nonneg _ _
 unfold numC at *
 omega
theorem phi4_le {g:Hp} {c:Col} (hm:mayH g []=true) (h0:0≤c.card):phi4 g c≤2 * (g.w.length:Int)+64:=by
 obtain ⟨u1,u2,u3⟩:=used_half hm
 obtain ⟨_,hmp,hsl,hcl,_,h64⟩:=shapedH_of (mayH_shaped hm)
 have h1:sumI (usedH g) (scW g c.card c.seek)≤sumI (usedH g) (roomAt g.pages)+((usedH g).length:Int):=by
  have e:sumI (usedH g) (roomAt g.pages)+((usedH g).length:Int)=sumI (usedH g) (fun x=>roomAt g.pages x+1):=by
   rw [sumI_add,sumI_const]
   omega
  rw [e]
  refine sumI_le fun x hx=>?_
  have:=(head_fits (mem_usedH.1 hx)).2.2.1
  have:=(head_fits (mem_usedH.1 hx)).2.1
  unfold scW
  split <;> omega
 have h2:(if c.seek=0 then 0 else scA g c - 1)≤64:=by
  split
  ·omega
  ·rcases scA_cases g c with ⟨_,h⟩ | ⟨_,_,h⟩ <;> omega
 unfold phi4
 omega
theorem phi4_nonneg {g:Hp} {c:Col} (h:c.card < (g.cards.length:Int)):0≤phi4 g c:=by
 have h1:=scS_nonneg g c.card c.seek
 unfold phi4
 split
 ·omega
 ·rcases scA_cases g c with ⟨_,h⟩ | ⟨_,h,_⟩ <;> omega
def base (n:Int):Int:=n * n / 4+4 * n+111
def phi (g:Hp) (c:Col):Int:=
 if c.phase≤0 then 0 else if c.phase≤3 then base (g.w.length:Int)+4 - c.phase
 else if c.phase=4 then (if (g.cards.length:Int)≤c.card then 0 else phi4 g c)+((g.w.length:Int) * (g.w.length:Int) / 4+41+((g.w.length:Int)+2))
 else if c.phase=5 then pot g c / 5+((g.w.length:Int)+2)
 else (potS g c:Int)
theorem potS_le {g:Hp} (hm:mayH g []=true) (c:Col):(potS g c:Int)≤(g.w.length:Int)+2:=by
 obtain ⟨u1,u2,u3⟩:=used_half hm
 have:behind g c.seek≤(cellStarts g.pages).length:=List.length_filter_le _ _
 unfold numC at u2
 unfold potS
 split <;> omega
structure Goes (g:Hp) (c:Col):Prop where
 t4:c.phase=4→0≤c.card
 t5:c.phase=5→TAt g c
theorem tat_zero {g:Hp} {c:Col} (h:c.at_=0):TAt g c:=⟨fun k=>absurd h k,fun _ k=>absurd h k,fun _ k=>absurd h k⟩
theorem ledQ_none (g:Hp) (c:Col):ledQ (fun _=>False) g c:=fun _ h=>h.elim
theorem sw_pot {g k : Hp} {c d : Col} (s : SwStep g c k d) (hm : mayH g [] = true) (hp : c.phase = 6) : (d.phase = 6 ∧ potS k d + 1 ≤ potS g c) ∨ d.phase = 0 := by
  cases s with
  | idle hn => exact absurd ⟨hm, hp⟩ hn
  | pass _ _ hmet =>
    refine .inl ⟨hp, ?_⟩
    unfold potS
    rw [hmet]
    show 2 * behind g c.seek + 0 + 1 + 1 ≤ _
    simp
  | old _ _ hmet =>
    refine .inl ⟨hp, ?_⟩
    unfold potS
    rw [hmet]
    show 2 * behind g c.seek + 0 + 1 + 1 ≤ _
    simp
  | free _ _ hmet hn hl hq hf h0 =>
    have f := freed hm h0
    have := behind_next hn hl f.starts
    refine .inl ⟨hp, ?_⟩
    unfold potS
    rw [hmet]
    show 2 * behind (freeH g (nextS g.pages c.seek)) (nextS g.pages c.seek) + 0 + 1 + 1 ≤ 2 * behind g c.seek + 0 + 1
    unfold behind at this ⊢
    omega
  | dirty _ _ hmet hn hl hq hf h0 hc =>
    have := behind_next hn hl (List.Sublist.refl _)
    refine .inl ⟨hp, ?_⟩
    unfold potS
    rw [hmet]
    show 2 * behind (cset g _ true) (nextS g.pages c.seek) + 1 + 1 + 1 ≤ _
    simp only [Bool.false_eq_true, if_false]
    unfold behind at this ⊢
    show 2 * ((cellStarts g.pages).filter _).length + 1 + 1 + 1 ≤ _
    omega
  | stay _ _ hmet hn hl hq hf =>
    have := behind_next hn hl (List.Sublist.refl _)
    refine .inl ⟨hp, ?_⟩
    unfold potS
    rw [hmet]
    show 2 * behind g (nextS g.pages c.seek) + 0 + 1 + 1 ≤ 2 * behind g c.seek + 0 + 1
    unfold behind at this ⊢
    omega
  | done => exact .inr rfl
theorem phi_step {g k : Hp} {c d : Col} {l : List Thread} (s : CStep g c l k d) (hc : mayC c = true) (hm : mayH g [] = true) (h0 : c.phase ≠ 0) (ha : c.phase ≤ 3 → allB c l = true) (ht : Goes g c) :
    (d.phase = 0 ∨ phi k d + 1 ≤ phi g c) ∧ Goes k d := by
  have hwl := s.wlen
  obtain ⟨m1, m2, m3, m4, m5, m6⟩ := may_c hc
  have hsq : 0 ≤ (g.w.length : Int) * (g.w.length : Int) := Int.mul_nonneg (by omega) (by omega)
  cases s
  case idle h => exact absurd ⟨hc, h0⟩ h
  case stay h1 h3 hb => rw [ha h3] at hb; cases hb
  case next h1 h3 hb =>
    by_cases hp : c.phase = 3
    · have e : nextP c = { c with phase := if c.major = true then 5 else 4, at_ := 0, field_ := 0, seek := 0, card := 0, met := false } := by unfold nextP; rw [if_pos hp]
      have e3 : phi g c = base (g.w.length : Int) + 1 := by unfold phi; rw [if_neg (by omega), if_pos (by omega)]; omega
      rw [e, e3]
      cases hj : c.major with
      | true =>
        refine ⟨.inr ?_, ⟨fun h => absurd h (by show ¬ (if true = true then (5 : Int) else 4) = 4; decide), fun _ => tat_zero rfl⟩⟩
        have hs := pot_start (g := g) (c := ⟨if true = true then 5 else 4, c.epoch, true, c.work, c.over, 0, 0, 0, 0, false⟩) hm rfl rfl m6
        have e5 : phi g ⟨if true = true then 5 else 4, c.epoch, true, c.work, c.over, 0, 0, 0, 0, false⟩ = pot g ⟨if true = true then 5 else 4, c.epoch, true, c.work, c.over, 0, 0, 0, 0, false⟩ / 5 + ((g.w.length : Int) + 2) := rfl
        rw [e5]
        unfold base
        omega
      | false =>
        refine ⟨.inr ?_, ⟨fun _ => Int.le_refl _, fun h => absurd h (by show ¬ (if false = true then (5 : Int) else 4) = 5; decide)⟩⟩
        have hs := phi4_le (g := g) (c := ⟨if false = true then 5 else 4, c.epoch, false, c.work, c.over, 0, 0, 0, 0, false⟩) hm (Int.le_refl _)
        have e5 : phi g ⟨if false = true then 5 else 4, c.epoch, false, c.work, c.over, 0, 0, 0, 0, false⟩ = (if (g.cards.length : Int) ≤ 0 then 0 else phi4 g ⟨if false = true then 5 else 4, c.epoch, false, c.work, c.over, 0, 0, 0, 0, false⟩) + ((g.w.length : Int) * (g.w.length : Int) / 4 + 41 + ((g.w.length : Int) + 2)) := rfl
        rw [e5]
        unfold base
        split <;> omega
    · have e : nextP c = { c with phase := c.phase + 1 } := by unfold nextP; rw [if_neg hp]
      rw [e]
      refine ⟨.inr ?_, ⟨fun h => absurd h (by show ¬ c.phase + 1 = 4; omega), fun h => absurd h (by show ¬ c.phase + 1 = 5; omega)⟩⟩
      have e1 : phi g c = base (g.w.length : Int) + 4 - c.phase := by unfold phi; rw [if_neg (by omega), if_pos (by omega)]
      have e2 : phi g { c with phase := c.phase + 1 } = base (g.w.length : Int) + 4 - (c.phase + 1) := by
        unfold phi
        rw [if_neg (by show ¬ c.phase + 1 ≤ 0; omega), if_pos (by show c.phase + 1 ≤ 3; omega)]
      omega
  case scan hp s =>
    have e4 : phi g c = (if (g.cards.length : Int) ≤ c.card then 0 else phi4 g c) + ((g.w.length : Int) * (g.w.length : Int) / 4 + 41 + ((g.w.length : Int) + 2)) := by
      unfold phi; rw [if_neg (by omega), if_neg (by omega), if_pos hp]
    have hcl := s.keep.clen
    have hmk : mayH k [] = true := by rw [s.keep.may]; exact hm
    rcases phi4_step s hm hp (ht.t4 hp) with ⟨p1, p2, p3⟩ | ⟨p1, p2, p3, p4⟩
    · refine ⟨.inr ?_, ⟨fun _ => p2, fun h => absurd h (by omega)⟩⟩
      have e : phi k d = (if (k.cards.length : Int) ≤ d.card then 0 else phi4 k d) + ((k.w.length : Int) * (k.w.length : Int) / 4 + 41 + ((k.w.length : Int) + 2)) := by
        unfold phi; rw [if_neg (by omega), if_neg (by omega), if_pos p1]
      rw [e, e4, hwl, hcl]
      have hlt : c.card < (g.cards.length : Int) := by
        apply Classical.byContradiction
        intro hge
        cases s
        case idle h => exact h ⟨hm, hp, ht.t4 hp⟩
        case fin => exact absurd p1 (by show ¬ (5 : Int) = 4; decide)
        all_goals omega
      have hge : 1 ≤ phi4 g c := by
        by_cases hd : d.card < (k.cards.length : Int)
        · have := phi4_nonneg hd; omega
        · have h1 := scS_nonneg g c.card c.seek
          unfold phi4
          split
          · omega
          · rcases scA_cases g c with ⟨_, h⟩ | ⟨_, h, _⟩ <;> omega
      rw [if_neg (show ¬ (g.cards.length : Int) ≤ c.card by omega)]
      split <;> omega
    · refine ⟨.inr ?_, ⟨fun h => absurd h (by omega), fun _ => tat_zero p2⟩⟩
      have e : phi k d = pot k d / 5 + ((k.w.length : Int) + 2) := by
        unfold phi; rw [if_neg (by omega), if_neg (by omega), if_neg (by omega), if_pos p1]
      have hs := pot_start hmk p2 p3 (by rw [p4]; exact m6)
      rw [hwl] at hs e
      have hb : 0 ≤ (if (g.cards.length : Int) ≤ c.card then 0 else phi4 g c) := by
        split
        · exact Int.le_refl _
        · exact phi4_nonneg (by omega)
      rw [e, e4]
      omega
  case trace hp s =>
    have e5 : phi g c = pot g c / 5 + ((g.w.length : Int) + 2) := by
      unfold phi; rw [if_neg (by omega), if_neg (by omega), if_neg (by omega), if_pos hp]
    have hmk : mayH k [] = true := by rw [s.marks.may]; exact hm
    have htk := (s.led (ledQ_none g c) (ht.t5 hp)).2
    rcases s.col.2.2 with p | ⟨_, p⟩
    · have hd5 : d.phase = 5 := by omega
      have := pot_step s hm hp (ht.t5 hp) hd5
      refine ⟨.inr ?_, ⟨fun h => absurd h (by omega), fun _ => htk⟩⟩
      have e : phi k d = pot k d / 5 + ((k.w.length : Int) + 2) := by
        unfold phi; rw [if_neg (by omega), if_neg (by omega), if_neg (by omega), if_pos hd5]
      rw [e, e5, hwl]
      omega
    · refine ⟨.inr ?_, ⟨fun h => absurd h (by omega), fun h => absurd h (by omega)⟩⟩
      have e : phi k d = (potS k d : Int) := by
        unfold phi; rw [if_neg (by omega), if_neg (by omega), if_neg (by omega), if_neg (by omega)]
      have h1 := potS_le hmk d
      have h2 := pot_pos (ht.t5 hp)
      rw [hwl] at h1
      rw [e, e5]
      omega
  case sweep hp s =>
    have e6 : phi g c = (potS g c : Int) := by
      unfold phi; rw [if_neg (by omega), if_neg (by omega), if_neg (by omega), if_neg (by omega)]
    rcases sw_pot s hm hp with ⟨p1, p2⟩ | p
    · refine ⟨.inr ?_, ⟨fun h => absurd h (by omega), fun h => absurd h (by omega)⟩⟩
      have e : phi k d = (potS k d : Int) := by
        unfold phi; rw [if_neg (by omega), if_neg (by omega), if_neg (by omega), if_neg (by omega)]
      rw [e, e6]
      omega
    · exact ⟨.inl p, ⟨fun h => absurd h (by omega), fun h => absurd h (by omega)⟩⟩
theorem phi_le {g:Hp} {c:Col} (hc:mayC c=true) (hm:mayH g []=true) (h:c.phase≤3):phi g c≤(g.w.length:Int) * (g.w.length:Int) / 4+6 * (g.w.length:Int)+100:=by
 obtain ⟨hw,_⟩:=shapedH_of (mayH_shaped hm)
 have h16:16≤(g.w.length:Int):=by have:=of_decide_eq_true hw;omega
 have hsq:0≤(g.w.length:Int) * (g.w.length:Int):=Int.mul_nonneg (by omega) (by omega)
 unfold phi
 rw [if_pos h]
 obtain ⟨m1,_⟩:=may_c hc
 unfold base
 split <;> omega
end Go.Abs
namespace Go.Abs
open Go.Proofs Go.Proofs.YtejnngjfjaeiiaaGreatDoor
set_option maxRecDepth 8000
theorem Marks.light {g k:Hp} (h:Marks g k) (hl:g.light):k.light:=by unfold Hp.light;rw [h.free];exact hl
theorem Marks.small {g k:Hp} (h:Marks g k) (hs:g.small):k.small:=by unfold Hp.small;rw [h.free,h.pages,h.cards,h.len];exact hs
theorem part1_spec (w:List Int) (a:Int) (hw:mayW w=true) (ha:16≤a∧a < 16+w.length):Spec X 187 [] [.c (.d (.sl .int w)),.int a,.int 1] (Ret [] (.tup [.c (.d (.sl .int ((w.drop (a - 16).toNat).take 1))),.int 0])):=by
 refine spec_go X_ok Tryz.f187 (by kernel_rfl) (by kernel_rfl) (by kernel_rfl) fun hb hH=>⟨rfl,?_⟩
 show ACall _ _ _ _ _ _
 refine call_ret (aMay_spec w) rfl ?_
 rw [hw]
 show ABr (!true) _ _
 show ABr _ _ _
 refine ⟨fun h=>absurd h (by decide),fun _=>?_⟩
 show ABr _ _ _
 refine ⟨fun h=>absurd h (by decide),fun _=>?_⟩
 have h1:w.length≤1024:=by have:=of_decide_eq_true hw;omega
 have e1:IntKind.i64.wrap (a - 16)=a - 16:=wrap64 (by omega) (by omega)
 have e2:IntKind.i64.wrap ((w.length:Int) - (a - 16))=w.length - (a - 16):=wrap64 (by omega) (by omega)
 show ABr (bif decide ((1:Int) > 0) then (bif (bif decide (a < 16) then true else decide (IntKind.i64.wrap (a - 16)≥(w.length:Int))) then true else decide ((1:Int) > IntKind.i64.wrap ((w.length:Int) - IntKind.i64.wrap (a - 16)))) else false) _ _
 rw [e1,e2]
 refine ⟨fun h=>?_,fun _=>?_⟩
 ·exfalso
  have g1:decide (a < 16)=false:=decide_eq_false (by omega)
  have g2:decide (a - 16≥(w.length:Int))=false:=decide_eq_false (by omega)
  have g3:decide ((1:Int) > (w.length:Int) - (a - 16))=false:=decide_eq_false (by omega)
  rw [g1,g2,g3] at h
  exact absurd h (by decide)
 ·show ABr _ _ _
  refine ⟨fun h=>absurd h (by decide),fun _=>?_⟩
  show AOb ((0:Int)≤IntKind.i64.wrap (a - 16)∧IntKind.i64.wrap (a - 16)≤(w.length:Int)) _
  rw [e1]
  refine ⟨by omega,?_⟩
  have hdl:(w.drop (a - 16).toNat).length=w.length - (a - 16).toNat:=List.length_drop
  show AOb ((0:Int)≤1∧(1:Int)≤1∧(1:Int)≤(((w.drop (a - 16).toNat).length:Nat):Int)) _
  refine ⟨by omega,?_⟩
  show ARet _ _ _
  exact ret_d rfl ⟨rfl,rfl⟩
theorem aGet_spec (w:List Int) (a:Int) (hw:mayW w=true) (ha:16≤a∧a < 16+w.length):Spec X 142 [] [.c (.d (.sl .int w)),.int a] (Ret [] (.tup [.int (at0 w (a - 16).toNat),.int 0])):=by
 refine spec_go X_ok Tryz.f142 (by kernel_rfl) (by kernel_rfl) (by kernel_rfl) fun hb hH=>⟨rfl,?_⟩
 show ACall _ _ _ _ _ _
 refine call_ret (part1_spec w a hw ha) rfl ?_
 have hdl:((w.drop (a - 16).toNat).take 1).length=1:=by rw [List.length_take,List.length_drop];omega
 show ABr _ _ _
 refine ⟨fun h=>absurd h (by decide),fun _=>?_⟩
 show AOb ((0:Int)≤0∧(0:Int) < ((((w.drop (a - 16).toNat).take 1).length:Nat):Int)) _
 refine ⟨by omega,?_⟩
 have hv:((w.drop (a - 16).toNat).take 1).getD 0 default=at0 w (a - 16).toNat:=by
  unfold at0
  simp [List.getD_eq_getElem?_getD]
 show ARet _ _ _
 exact ⟨[],[],[.int (at0 w (a - 16).toNat),.int 0],.cons _ _ _ _ (.int_eq hv) (.cons _ _ _ _ .same .nil),.nil,rfl,rfl,rfl⟩
end Go.Abs
namespace Go.Abs
open Go.Proofs Go.Proofs.YtejnngjfjaeiiaaGreatDoor
set_option maxRecDepth 8000
def wkV (g:Hp) (c:Col):List CV:=(g.enc ++ c.enc).map .d
theorem sown_spec (g:Hp) (c:Col) (hs:g.small) (hw:c.work.length≤most):Spec X 84 [] [g.tv,c.tv] (Ret [(0,.vars (wkV g c))] (.c (.ptr 0 0 0))):=by
 refine spec_go X_ok Tryz.f84 (by kernel_rfl) (by kernel_rfl) (by kernel_rfl) fun hb hH=>⟨rfl,?_⟩
 obtain ⟨h1,h2,h3,h4,h5,h6⟩:=hs
 show ADCall _ _ _ _ _ _
 refine .mk _ _ (CloneInts_spec g.w h1) rfl ?_
 show ADCall _ _ _ _ _ _
 refine .mk _ _ (ClonePages_spec g.pages h2) rfl ?_
 show ADCall _ _ _ _ _ _
 refine .mk _ _ (CloneBools_spec g.cards h3) rfl ?_
 show ∃ n,_
 refine ⟨4,?_⟩
 show ALoop _ _ _ _
 refine .next ?_
 show ABr _ _ _
 refine ⟨fun _=>?_,fun h=>absurd h (by decide)⟩
 show AOb _ _
 refine ⟨by decide,?_⟩
 show ACall _ _ _ _ _ _
 refine call_ret (CloneInts_spec g.free.l0 h4) rfl ?_
 show AOb _ _
 refine ⟨by decide,?_⟩
 show ALoop _ _ _ _
 refine .next ?_
 show ABr _ _ _
 refine ⟨fun _=>?_,fun h=>absurd h (by decide)⟩
 show AOb _ _
 refine ⟨by decide,?_⟩
 show ACall _ _ _ _ _ _
 refine call_ret (CloneInts_spec g.free.l1 h5) rfl ?_
 show AOb _ _
 refine ⟨by decide,?_⟩
 show ALoop _ _ _ _
 refine .next ?_
 show ABr _ _ _
 refine ⟨fun _=>?_,fun h=>absurd h (by decide)⟩
 show AOb _ _
 refine ⟨by decide,?_⟩
 show ACall _ _ _ _ _ _
 refine call_ret (CloneInts_spec g.free.l2 h6) rfl ?_
 show AOb _ _
 refine ⟨by decide,?_⟩
 show ALoop _ _ _ _
 refine .next ?_
 show ABr _ _ _
 refine ⟨fun h=>absurd h (by decide),fun _=>?_⟩
 show ACall _ _ _ _ _ _
 refine call_ret (CloneInts_spec c.work hw) rfl ?_
 show ARet _ _ _
 exact ⟨[(_,0)],[(0,.vars (wkV g c))],[.c (.ptr 0 0 0)],.cons _ _ _ _ (.c _ _ (.ptr1 _ _ _ _)) .nil,.old 0 _ _ _ _ rfl rfl (.vars _ _ (LeL_refl rfl)) .nil,rfl,rfl,rfl⟩
theorem sat_spec (g:Hp) (c:Col) (a:Int):Spec X 85 [(16,.vars (wkV g c))] [.c (.ptr 16 0 0),.int a] (fun H r=>H=[(16,.vars (wkV g { c with at_:=a,field_:=0 }))]∧r = .tup []):=by
 refine spec_go X_ok Tryz.f85 (by kernel_rfl) (by kernel_rfl) (by kernel_rfl) fun hb hH=>⟨rfl,?_⟩
 show ARet _ _ _
 exact ⟨[(16,16)],[(16,.vars (wkV g { c with at_:=a,field_:=0 }))],[],.nil,.old 16 16 _ _ _ rfl rfl (.vars _ _ (LeL_refl rfl)) .nil,rfl,rfl,rfl⟩
theorem syoung_spec (g:Hp) (c:Col) (a:Int) (hl:g.light):Spec X 143 [] [.c (.d (.rp (g.enc ++ c.enc))),.int a] (Ret [] (.bo (youngH g a))):=by
 refine spec_go X_ok Tryz.f143 (by kernel_rfl) (by kernel_rfl) (by kernel_rfl) fun hb hH=>⟨rfl,?_⟩
 show ACall _ _ _ _ _ _
 refine call_ret (hHead_spec g a hl) rfl ?_
 show ARet _ _ _
 refine ret_bo (x:=bif decide (headE g a=0) then !(headH g a).old else false) ?_ ⟨rfl,rfl⟩
 unfold youngH
 cases decide (headE g a=0) <;> rfl
theorem saddr_spec (g:Hp) (c:Col):Spec X 147 [] [.c (.d (.rp (g.enc ++ c.enc)))] (Ret [] (.int (IntKind.i64.wrap (16+IntKind.i64.wrap (8 * c.card))))):=by
 refine spec_go X_ok Tryz.f147 (by kernel_rfl) (by kernel_rfl) (by kernel_rfl) fun hb hH=>⟨rfl,?_⟩
 show ARet _ _ _
 exact ret_d rfl ⟨rfl,rfl⟩
theorem card64 {g:Hp} (hm:mayH g []=true) {n:Int} (h0:0≤n) (hc:n < (g.cards.length:Int)):IntKind.i64.wrap (n+1)=n+1:=by
 obtain ⟨_,_,_,h4,_,h64⟩:=shapedH_of (mayH_shaped hm)
 exact wrap64 (by omega) (by omega)
theorem clean_ok {g:Hp} (hm:mayH g []=true) {n:Int} (h0:0≤n) (hc:n < (g.cards.length:Int)):cleanH g n=cset g n false:=by
 apply cleanH_yes
 unfold cleanE
 rw [hm,decide_eq_true ⟨h0,hc⟩]
 rfl
theorem sbegin_spec (g : Hp) (c : Col) (hl : g.light) (hm : mayH g [] = true) (h0 : 0 ≤ c.card) (hc : c.card < (g.cards.length : Int)) : Spec X 86 [(16, .vars (wkV g c))] [.c (.ptr 16 0 0)] (fun H r => H = [(16, .vars (wkV (scanB g c).1 (scanB g c).2))] ∧ r = .tup []) := by
  refine spec_go X_ok Tryz.f86 (by kernel_rfl) (by kernel_rfl) (by kernel_rfl) fun hb hH => ⟨rfl, ?_⟩
  show AOb ((0 : Int) ≤ c.card ∧ c.card < (g.cards.length : Int)) _
  refine ⟨⟨h0, hc⟩, ?_⟩
  unfold scanB
  show ABr (!g.cards.getD c.card.toNat false) _ _
  cases hd : g.cards.getD c.card.toNat false with
  | false =>
    rw [if_neg (by decide)]
    show ABr _ _ _
    refine ⟨fun _ => ?_, fun h => absurd h (by decide)⟩
    have wc := card64 hm h0 hc
    show ARet _ _ _
    exact ⟨[(16, 16)], [(16, .vars (wkV g { c with card := c.card + 1 }))], [], .nil, .old 16 16 _ _ _ rfl rfl (.vars _ _ (by repeat' first | exact .nil | refine .cons _ _ _ _ ?_ ?_ | exact .d _ | exact .int_eq wc)) .nil, rfl, rfl, rfl⟩
  | true =>
    rw [if_pos rfl, ← clean_ok hm h0 hc]
    show ABr _ _ _
    refine ⟨fun h => absurd h (by decide), fun _ => ?_⟩
    show ADCall _ _ _ _ _ _
    refine .mk _ _ (Clean_spec g c.card hl) rfl ?_
    show ACall _ _ _ _ _ _
    refine .hand [(16, 16)] [(16, .vars (wkV (cleanH g c.card) { c with seek := 1, met := false }))] [.c (.ptr 16 0 0), .int 0] _ (.cons _ _ _ _ (.c _ _ (.ptr _ _ _ _ rfl)) (.cons _ _ _ _ .same .nil)) (.old 16 16 _ _ _ rfl rfl (.vars _ _ (LeL_refl rfl)) .nil) rfl (sat_spec (cleanH g c.card) { c with seek := 1, met := false } 0) ?_
    rintro H r ⟨rfl, rfl⟩ _ _
    refine ⟨rfl, .inl rfl, ?_⟩
    show ARet _ _ _
    exact ⟨[(16, 16)], [(16, .vars (wkV (cleanH g c.card) { c with seek := 1, met := false, at_ := 0, field_ := 0 }))], [], .nil, .old 16 16 _ _ _ rfl rfl (.vars _ _ (by repeat' first | exact .nil | refine .cons _ _ _ _ ?_ ?_ | exact .d _ | exact .int_eq rfl)) .nil, rfl, rfl, rfl⟩
set_option maxRecDepth 60000 in
set_option maxHeartbeats 2000000 in
theorem sfield_spec (g : Hp) (c : Col) (hl : g.light) (hs : g.small) (hk : c.work.length < most) : Spec X 87 [(16, .vars (wkV g c))] [.c (.ptr 16 0 0)] (fun H r => H = [(16, .vars (wkV (scanF g c).1 (scanF g c).2))] ∧ r = .tup []) := by
  refine spec_go X_ok Tryz.f87 (by kernel_rfl) (by kernel_rfl) (by kernel_rfl) fun hb hH => ⟨rfl, ?_⟩
  show ADCall _ _ _ _ _ _
  refine .mk _ _ (hHead_spec g c.at_ hl) rfl ?_
  unfold scanF
  by_cases hE : headE g c.at_ = 0
  · show ABr (!decide (headE g c.at_ = 0)) _ _
    rw [decide_eq_true hE]
    show ABr _ _ _
    refine ⟨fun h => absurd h (by decide), fun _ => ?_⟩
    by_cases hf : c.field_ < 0
    · show ABr (decide (c.field_ < 0)) _ _
      rw [decide_eq_true hf, if_pos (.inr (.inl hf))]
      show ABr _ _ _
      refine ⟨fun _ => ?_, fun h => absurd h (by decide)⟩
      show ABr _ _ _
      refine ⟨fun _ => ?_, fun h => absurd h (by decide)⟩
      show ACall _ _ _ _ _ _
      refine .hand [(16, 16)] [(16, .vars (wkV g c))] [.c (.ptr 16 0 0), .int 0] _ (.cons _ _ _ _ (.c _ _ (.ptr _ _ _ _ rfl)) (.cons _ _ _ _ .same .nil)) (.old 16 16 _ _ _ rfl rfl (.vars _ _ (LeL_refl rfl)) .nil) rfl (sat_spec g c 0) ?_
      rintro H r ⟨rfl, rfl⟩ _ _
      refine ⟨rfl, .inl rfl, ?_⟩
      show ARet _ _ _
      exact ⟨[(16, 16)], [(16, .vars (wkV g { c with at_ := 0, field_ := 0 }))], [], .nil, .old 16 16 _ _ _ rfl rfl (.vars _ _ (by repeat' first | exact .nil | refine .cons _ _ _ _ ?_ ?_ | exact .d _ | exact .int_eq rfl)) .nil, rfl, rfl, rfl⟩
    · show ABr (decide (c.field_ < 0)) _ _
      rw [decide_eq_false hf]
      show ABr _ _ _
      refine ⟨fun h => absurd h (by decide), fun _ => ?_⟩
      by_cases hn : (headH g c.at_).n ≤ c.field_
      · show ABr (decide (c.field_ ≥ (headH g c.at_).n)) _ _
        rw [decide_eq_true (show c.field_ ≥ (headH g c.at_).n from hn), if_pos (.inr (.inr hn))]
        show ABr _ _ _
        refine ⟨fun _ => ?_, fun h => absurd h (by decide)⟩
        show ACall _ _ _ _ _ _
        refine .hand [(16, 16)] [(16, .vars (wkV g c))] [.c (.ptr 16 0 0), .int 0] _ (.cons _ _ _ _ (.c _ _ (.ptr _ _ _ _ rfl)) (.cons _ _ _ _ .same .nil)) (.old 16 16 _ _ _ rfl rfl (.vars _ _ (LeL_refl rfl)) .nil) rfl (sat_spec g c 0) ?_
        rintro H r ⟨rfl, rfl⟩ _ _
        refine ⟨rfl, .inl rfl, ?_⟩
        show ARet _ _ _
        exact ⟨[(16, 16)], [(16, .vars (wkV g { c with at_ := 0, field_ := 0 }))], [], .nil, .old 16 16 _ _ _ rfl rfl (.vars _ _ (by repeat' first | exact .nil | refine .cons _ _ _ _ ?_ ?_ | exact .d _ | exact .int_eq rfl)) .nil, rfl, rfl, rfl⟩
      · show ABr (decide (c.field_ ≥ (headH g c.at_).n)) _ _
        rw [decide_eq_false (show ¬ c.field_ ≥ (headH g c.at_).n from hn), if_neg (fun k => by rcases k with k | k | k; exact k hE; exact hf k; exact hn k)]
        show ABr _ _ _
        refine ⟨fun h => absurd h (by decide), fun _ => ?_⟩
        have h0 : 0 ≤ c.field_ := by omega
        obtain ⟨hm, hr, _⟩ := headE_of hE
        obtain ⟨hmw, _, hlen, _, _, h64⟩ := shapedH_of (mayH_shaped hm)
        obtain ⟨⟨a1, a2⟩, _⟩ := field_adr (f := c.field_ + 1) hE (by omega) (by omega)
        have ha16 := (room_adr (h := g) hr).1
        have w1 : IntKind.i64.wrap (c.at_ + 1) = c.at_ + 1 := wrap64 (by omega) (by omega)
        have w2 : IntKind.i64.wrap (c.at_ + 1 + c.field_) = c.at_ + 1 + c.field_ := wrap64 (by omega) (by omega)
        have w3 : IntKind.i64.wrap (c.field_ + 1) = c.field_ + 1 := wrap64 (by omega) (by omega)
        have hv : at0 g.w (IntKind.i64.wrap (IntKind.i64.wrap (c.at_ + 1) + c.field_) - 16).toNat = wordOf g (c.at_ + 1 + c.field_) := by
          rw [w1, w2]
          unfold wordOf wordAt
          rw [if_pos ⟨hmw, by omega, by omega⟩]
        generalize wordOf g (c.at_ + 1 + c.field_) = v at hv
        show ADCall _ _ _ _ _ _
        refine .mk _ _ (aGet_spec g.w (IntKind.i64.wrap (IntKind.i64.wrap (c.at_ + 1) + c.field_)) hmw (by rw [w1, w2]; omega)) rfl ?_
        rw [hv]
        show ACall _ _ _ _ _ _
        refine call_ret (syoung_spec g c v hl) rfl ?_
        cases hy : youngH g v with
        | true =>
          have e1 : metS g c v = (shadeG g c v, { shadeC g c v with met := true }) := by unfold metS; rw [if_pos hy]
          rw [e1]
          show ABr _ _ _
          refine ⟨fun _ => ?_, fun h => absurd h (by decide)⟩
          show ADCall _ _ _ _ _ _
          refine .mk _ _ (Shade_spec g c v hl hs hk) rfl ?_
          have sm := shadeC_same g c v
          have ef : IntKind.i64.wrap ((shadeC g c v).field_ + 1) = c.field_ + 1 := by rw [sm.field_, w3]
          show ABr (decide (IntKind.i64.wrap ((shadeC g c v).field_ + 1) = (headH g c.at_).n)) _ _
          rw [ef]
          by_cases hl2 : c.field_ + 1 = (headH g c.at_).n
          · rw [if_pos hl2, decide_eq_true hl2]
            show ABr _ _ _
            refine ⟨fun _ => ?_, fun h => absurd h (by decide)⟩
            show ACall _ _ _ _ _ _
            refine .hand [(16, 16)] [(16, .vars (wkV (shadeG g c v) { shadeC g c v with met := true, field_ := c.field_ + 1 }))] [.c (.ptr 16 0 0), .int 0] _ (.cons _ _ _ _ (.c _ _ (.ptr _ _ _ _ rfl)) (.cons _ _ _ _ .same .nil)) (.old 16 16 _ _ _ rfl rfl (.vars _ _ (LeL_refl rfl)) .nil) rfl (sat_spec (shadeG g c v) { shadeC g c v with met := true, field_ := c.field_ + 1 } 0) ?_
            rintro H r ⟨rfl, rfl⟩ _ _
            refine ⟨rfl, .inl rfl, ?_⟩
            show ARet _ _ _
            exact ⟨[(16, 16)], [(16, .vars (wkV (shadeG g c v) { shadeC g c v with met := true, at_ := 0, field_ := 0 }))], [], .nil, .old 16 16 _ _ _ rfl rfl (.vars _ _ (by repeat' first | exact .nil | refine .cons _ _ _ _ ?_ ?_ | exact .d _ | exact .int_eq rfl)) .nil, rfl, rfl, rfl⟩
          · rw [if_neg hl2, decide_eq_false hl2]
            show ABr _ _ _
            refine ⟨fun h => absurd h (by decide), fun _ => ?_⟩
            show ARet _ _ _
            exact ⟨[(16, 16)], [(16, .vars (wkV (shadeG g c v) { shadeC g c v with met := true, field_ := c.field_ + 1 }))], [], .nil, .old 16 16 _ _ _ rfl rfl (.vars _ _ (by repeat' first | exact .nil | refine .cons _ _ _ _ ?_ ?_ | exact .d _ | exact .int_eq rfl)) .nil, rfl, rfl, rfl⟩
        | false =>
          have e1 : metS g c v = (g, c) := by unfold metS; rw [if_neg (by rw [hy]; decide)]
          rw [e1]
          show ABr _ _ _
          refine ⟨fun h => absurd h (by decide), fun _ => ?_⟩
          show ABr (decide (IntKind.i64.wrap (c.field_ + 1) = (headH g c.at_).n)) _ _
          rw [w3]
          by_cases hl2 : c.field_ + 1 = (headH g c.at_).n
          · rw [if_pos hl2, decide_eq_true hl2]
            show ABr _ _ _
            refine ⟨fun _ => ?_, fun h => absurd h (by decide)⟩
            show ACall _ _ _ _ _ _
            refine .hand [(16, 16)] [(16, .vars (wkV g { c with field_ := c.field_ + 1 }))] [.c (.ptr 16 0 0), .int 0] _ (.cons _ _ _ _ (.c _ _ (.ptr _ _ _ _ rfl)) (.cons _ _ _ _ .same .nil)) (.old 16 16 _ _ _ rfl rfl (.vars _ _ (LeL_refl rfl)) .nil) rfl (sat_spec g { c with field_ := c.field_ + 1 } 0) ?_
            rintro H r ⟨rfl, rfl⟩ _ _
            refine ⟨rfl, .inl rfl, ?_⟩
            show ARet _ _ _
            exact ⟨[(16, 16)], [(16, .vars (wkV g { c with at_ := 0, field_ := 0 }))], [], .nil, .old 16 16 _ _ _ rfl rfl (.vars _ _ (by repeat' first | exact .nil | refine .cons _ _ _ _ ?_ ?_ | exact .d _ | exact .int_eq rfl)) .nil, rfl, rfl, rfl⟩
          · rw [if_neg hl2, decide_eq_false hl2]
            show ABr _ _ _
            refine ⟨fun h => absurd h (by decide), fun _ => ?_⟩
            show ARet _ _ _
            exact ⟨[(16, 16)], [(16, .vars (wkV g { c with field_ := c.field_ + 1 }))], [], .nil, .old 16 16 _ _ _ rfl rfl (.vars _ _ (by repeat' first | exact .nil | refine .cons _ _ _ _ ?_ ?_ | exact .d _ | exact .int_eq rfl)) .nil, rfl, rfl, rfl⟩
  · show ABr (!decide (headE g c.at_ = 0)) _ _
    rw [decide_eq_false hE, if_pos (.inl hE)]
    show ABr _ _ _
    refine ⟨fun _ => ?_, fun h => absurd h (by decide)⟩
    conv => whnf
    refine ⟨fun _ => ?_, fun h => absurd h (by decide)⟩
    show ABr _ _ _
    refine ⟨fun _ => ?_, fun h => absurd h (by decide)⟩
    show ACall _ _ _ _ _ _
    refine .hand [(16, 16)] [(16, .vars (wkV g c))] [.c (.ptr 16 0 0), .int 0] _ (.cons _ _ _ _ (.c _ _ (.ptr _ _ _ _ rfl)) (.cons _ _ _ _ .same .nil)) (.old 16 16 _ _ _ rfl rfl (.vars _ _ (LeL_refl rfl)) .nil) rfl (sat_spec g c 0) ?_
    rintro H r ⟨rfl, rfl⟩ _ _
    refine ⟨rfl, .inl rfl, ?_⟩
    show ARet _ _ _
    exact ⟨[(16, 16)], [(16, .vars (wkV g { c with at_ := 0, field_ := 0 }))], [], .nil, .old 16 16 _ _ _ rfl rfl (.vars _ _ (by repeat' first | exact .nil | refine .cons _ _ _ _ ?_ ?_ | exact .d _ | exact .int_eq rfl)) .nil, rfl, rfl, rfl⟩
theorem cardA {g:Hp} (hm:mayH g []=true) {n:Int} (h0:0≤n) (hc:n < (g.cards.length:Int)):IntKind.i64.wrap (16+IntKind.i64.wrap (8 * n))=16+8 * n∧dirtyH g (16+8 * n)=cset g n true:=by
 obtain ⟨_,_,h3,h4,_,h64⟩:=shapedH_of (mayH_shaped hm)
 have e1:IntKind.i64.wrap (8 * n)=8 * n:=wrap64 (by omega) (by omega)
 have e2:IntKind.i64.wrap (16+8 * n)=16+8 * n:=wrap64 (by omega) (by omega)
 have h0':=cardE_mk (a:=16+8 * n) hm ⟨by omega,by omega⟩
 refine ⟨by rw [e1,e2],?_⟩
 rw [dirtyH_yes h0',cardOf_yes h0']
 congr 1
 omega
theorem send_spec (g : Hp) (c : Col) (hl : g.light) (hm : mayH g [] = true) (h0 : 0 ≤ c.card) (hc : c.card < (g.cards.length : Int)) : Spec X 89 [(16, .vars (wkV g c))] [.c (.ptr 16 0 0)] (fun H r => H = [(16, .vars (wkV (scanE g c).1 (scanE g c).2))] ∧ r = .tup []) := by
  refine spec_go X_ok Tryz.f89 (by kernel_rfl) (by kernel_rfl) (by kernel_rfl) fun hb hH => ⟨rfl, ?_⟩
  have wc := card64 hm h0 hc
  obtain ⟨wa, wd⟩ := cardA hm h0 hc
  unfold scanE
  cases hd : c.met with
  | true =>
    rw [if_pos rfl, ← wd]
    show ABr _ _ _
    refine ⟨fun _ => ?_, fun h => absurd h (by simp [hd])⟩
    show ADCall _ _ _ _ _ _
    refine .mk _ _ (saddr_spec g c) rfl ?_
    rw [wa]
    show ADCall _ _ _ _ _ _
    refine .mk _ _ (Dirty_spec g (16 + 8 * c.card) hl (by obtain ⟨_, _, h3, h4, _, h64⟩ := shapedH_of (mayH_shaped hm); omega)) rfl ?_
    show ARet _ _ _
    exact ⟨[(16, 16)], [(16, .vars (wkV (dirtyH g (16 + 8 * c.card)) { c with card := c.card + 1, seek := 0, met := false }))], [], .nil, .old 16 16 _ _ _ rfl rfl (.vars _ _ (by repeat' first | exact .nil | refine .cons _ _ _ _ ?_ ?_ | exact .d _ | exact .int_eq wc)) .nil, rfl, rfl, rfl⟩
  | false =>
    rw [if_neg (by decide)]
    show ABr _ _ _
    refine ⟨fun h => absurd h (by simp [hd]), fun _ => ?_⟩
    show ARet _ _ _
    exact ⟨[(16, 16)], [(16, .vars (wkV g { c with card := c.card + 1, seek := 0, met := false }))], [], .nil, .old 16 16 _ _ _ rfl rfl (.vars _ _ (by repeat' first | exact .nil | refine .cons _ _ _ _ ?_ ?_ | exact .d _ | exact .int_eq wc)) .nil, rfl, rfl, rfl⟩
set_option maxRecDepth 60000 in
set_option maxHeartbeats 2000000 in
theorem sStep_spec (g : Hp) (c : Col) (hl : g.light) (hs : g.small) (hk : c.work.length < most) : Spec X 45 [] [g.tv, c.tv] (Ret [] (.tup [(scanS g c).1.tv, (scanS g c).2.tv])) := by
  refine spec_go X_ok Tryz.f45 (by kernel_rfl) (by kernel_rfl) (by kernel_rfl) fun hb hH => ⟨rfl, ?_⟩
  show ACall _ _ _ _ _ _
  refine .mk _ (sown_spec g c hs (Nat.le_of_lt hk)) fun H r ⟨eH, er⟩ _ _ => ⟨.inl rfl, ?_⟩
  subst eH er
  show ACall _ _ _ _ _ _
  refine call_ret (hHMay0_spec g hl) rfl ?_
  show ABr (bif (bif !mayH g [] then true else !decide (c.phase = 4)) then true else decide (c.card < 0)) _ _
  unfold scanS
  by_cases hx : mayH g [] = true ∧ c.phase = 4 ∧ 0 ≤ c.card
  · obtain ⟨hm, hp, h0⟩ := hx
    have hc0 : (bif (bif !mayH g [] then true else !decide (c.phase = 4)) then true else decide (c.card < 0)) = false := by rw [hm, decide_eq_true hp, decide_eq_false (by omega)]; rfl
    refine ⟨fun h => absurd (hc0.symm.trans h) (by decide), fun _ => ?_⟩
    rw [if_pos ⟨hm, hp, h0⟩]
    show ABr (decide (c.card ≥ (g.cards.length : Int))) _ _
    by_cases hc : (g.cards.length : Int) ≤ c.card
    · rw [if_pos hc, decide_eq_true (show c.card ≥ (g.cards.length : Int) from hc)]
      show ABr _ _ _
      refine ⟨fun _ => ?_, fun h => absurd h (by decide)⟩
      show ACall _ _ _ _ _ _
      refine .hand [(224, 16)] [(16, .vars (wkV g { c with phase := 5, seek := 0, card := 0, met := false }))] [.c (.ptr 16 0 0), .int 0] _ (.cons _ _ _ _ (.c _ _ (.ptr _ _ _ _ rfl)) (.cons _ _ _ _ .same .nil)) (.old 16 224 _ _ _ rfl rfl (.vars _ _ (LeL_refl rfl)) .nil) rfl (sat_spec g { c with phase := 5, seek := 0, card := 0, met := false } 0) ?_
      rintro H r ⟨rfl, rfl⟩ _ _
      refine ⟨rfl, .inl rfl, ?_⟩
      show ARet _ _ _
      exact ret_d rfl ⟨rfl, rfl⟩
    · rw [if_neg hc, decide_eq_false (show ¬ c.card ≥ (g.cards.length : Int) from hc)]
      show ABr _ _ _
      refine ⟨fun h => absurd h (by decide), fun _ => ?_⟩
      have hc : c.card < (g.cards.length : Int) := by omega
      by_cases hsk : c.seek = 0
      · show ABr (decide (c.seek = 0)) _ _
        rw [if_pos hsk, decide_eq_true hsk]
        show ABr _ _ _
        refine ⟨fun _ => ?_, fun h => absurd h (by decide)⟩
        show ACall _ _ _ _ _ _
        refine .hand [(224, 16)] [(16, .vars (wkV g c))] [.c (.ptr 16 0 0)] _ (.cons _ _ _ _ (.c _ _ (.ptr _ _ _ _ rfl)) .nil) (.old 16 224 _ _ _ rfl rfl (.vars _ _ (LeL_refl rfl)) .nil) rfl (sbegin_spec g c hl hm h0 hc) ?_
        rintro H r ⟨rfl, rfl⟩ _ _
        refine ⟨rfl, .inl rfl, ?_⟩
        show ARet _ _ _
        exact ret_d rfl ⟨rfl, rfl⟩
      · show ABr (decide (c.seek = 0)) _ _
        rw [if_neg hsk, decide_eq_false hsk]
        show ABr _ _ _
        refine ⟨fun h => absurd h (by decide), fun _ => ?_⟩
        by_cases ha : c.at_ = 0
        · show ABr (!decide (c.at_ = 0)) _ _
          rw [if_neg (fun k => k ha), decide_eq_true ha]
          show ABr _ _ _
          refine ⟨fun h => absurd h (by decide), fun _ => ?_⟩
          show ACall _ _ _ _ _ _
          refine call_ret (cNext_spec g c.card c.seek hl) rfl ?_
          cases hn : nextO g c.card c.seek with
          | some a =>
            show ABr _ _ _
            refine ⟨fun _ => ?_, fun h => absurd h (by simp)⟩
            show ACall _ _ _ _ _ _
            refine .hand [(224, 16)] [(16, .vars (wkV g c))] [.c (.ptr 16 0 0), .int a] _ (.cons _ _ _ _ (.c _ _ (.ptr _ _ _ _ rfl)) (.cons _ _ _ _ .same .nil)) (.old 16 224 _ _ _ rfl rfl (.vars _ _ (LeL_refl rfl)) .nil) rfl (sat_spec g c a) ?_
            rintro H r ⟨rfl, rfl⟩ _ _
            refine ⟨rfl, .inl rfl, ?_⟩
            show ARet _ _ _
            exact ret_d rfl ⟨rfl, rfl⟩
          | none =>
            show ABr _ _ _
            refine ⟨fun h => absurd h (by simp), fun _ => ?_⟩
            show ACall _ _ _ _ _ _
            refine .hand [(224, 16)] [(16, .vars (wkV g c))] [.c (.ptr 16 0 0)] _ (.cons _ _ _ _ (.c _ _ (.ptr _ _ _ _ rfl)) .nil) (.old 16 224 _ _ _ rfl rfl (.vars _ _ (LeL_refl rfl)) .nil) rfl (send_spec g c hl hm h0 hc) ?_
            rintro H r ⟨rfl, rfl⟩ _ _
            refine ⟨rfl, .inl rfl, ?_⟩
            show ARet _ _ _
            exact ret_d rfl ⟨rfl, rfl⟩
        · show ABr (!decide (c.at_ = 0)) _ _
          rw [if_pos ha, decide_eq_false ha]
          show ABr _ _ _
          refine ⟨fun _ => ?_, fun h => absurd h (by decide)⟩
          show ACall _ _ _ _ _ _
          refine .hand [(224, 16)] [(16, .vars (wkV g c))] [.c (.ptr 16 0 0)] _ (.cons _ _ _ _ (.c _ _ (.ptr _ _ _ _ rfl)) .nil) (.old 16 224 _ _ _ rfl rfl (.vars _ _ (LeL_refl rfl)) .nil) rfl (sfield_spec g c hl hs hk) ?_
          rintro H r ⟨rfl, rfl⟩ _ _
          refine ⟨rfl, .inl rfl, ?_⟩
          show ARet _ _ _
          exact ret_d rfl ⟨rfl, rfl⟩
  · rw [if_neg hx]
    have hc0 : (bif (bif !mayH g [] then true else !decide (c.phase = 4)) then true else decide (c.card < 0)) = true := by
      cases hm : mayH g [] with
      | false => rfl
      | true =>
        by_cases hp : c.phase = 4
        · have : c.card < 0 := by
            apply Classical.byContradiction
            intro h; exact hx ⟨hm, hp, by omega⟩
          rw [decide_eq_true hp, decide_eq_true this]; rfl
        · rw [decide_eq_false hp]; rfl
    refine ⟨fun _ => ?_, fun h => absurd (hc0.symm.trans h) (by decide)⟩
    show ARet _ _ _
    exact ret_d rfl ⟨rfl, rfl⟩
end Go.Abs
namespace Go.Abs
open Go.Proofs Go.Proofs.YtejnngjfjaeiiaaGreatDoor
set_option maxRecDepth 8000
theorem town_spec (g:Hp) (c:Col) (hs:g.small) (hw:c.work.length≤most):Spec X 90 [] [g.tv,c.tv] (Ret [] (.tup [g.tv,c.tv])):=by
 refine spec_go X_ok Tryz.f90 (by kernel_rfl) (by kernel_rfl) (by kernel_rfl) fun hb hH=>⟨rfl,?_⟩
 obtain ⟨h1,h2,h3,h4,h5,h6⟩:=hs
 show ADCall _ _ _ _ _ _
 refine .mk _ _ (CloneInts_spec g.w h1) rfl ?_
 show ADCall _ _ _ _ _ _
 refine .mk _ _ (ClonePages_spec g.pages h2) rfl ?_
 show ADCall _ _ _ _ _ _
 refine .mk _ _ (CloneBools_spec g.cards h3) rfl ?_
 show ∃ n,_
 refine ⟨4,?_⟩
 show ALoop _ _ _ _
 refine .next ?_
 show ABr _ _ _
 refine ⟨fun _=>?_,fun h=>absurd h (by decide)⟩
 show AOb _ _
 refine ⟨by decide,?_⟩
 show ACall _ _ _ _ _ _
 refine call_ret (CloneInts_spec g.free.l0 h4) rfl ?_
 show AOb _ _
 refine ⟨by decide,?_⟩
 show ALoop _ _ _ _
 refine .next ?_
 show ABr _ _ _
 refine ⟨fun _=>?_,fun h=>absurd h (by decide)⟩
 show AOb _ _
 refine ⟨by decide,?_⟩
 show ACall _ _ _ _ _ _
 refine call_ret (CloneInts_spec g.free.l1 h5) rfl ?_
 show AOb _ _
 refine ⟨by decide,?_⟩
 show ALoop _ _ _ _
 refine .next ?_
 show ABr _ _ _
 refine ⟨fun _=>?_,fun h=>absurd h (by decide)⟩
 show AOb _ _
 refine ⟨by decide,?_⟩
 show ACall _ _ _ _ _ _
 refine call_ret (CloneInts_spec g.free.l2 h6) rfl ?_
 show AOb _ _
 refine ⟨by decide,?_⟩
 show ALoop _ _ _ _
 refine .next ?_
 show ABr _ _ _
 refine ⟨fun h=>absurd h (by decide),fun _=>?_⟩
 show ACall _ _ _ _ _ _
 refine call_ret (CloneInts_spec c.work hw) rfl ?_
 show ARet _ _ _
 exact ret_d rfl ⟨rfl,rfl⟩
theorem tgrey_spec (g:Hp) (c:Col) (a:Int) (hl:g.light) (hs:g.small):Spec X 93 [] [g.tv,c.tv,.int a] (Ret [] (.int (greyN g c a))):=by
 refine spec_go X_ok Tryz.f93 (by kernel_rfl) (by kernel_rfl) (by kernel_rfl) fun hb hH=>⟨rfl,?_⟩
 unfold greyN
 show ACall _ _ _ _ _ _
 refine call_ret (shBlack_spec g c a hl hs) rfl ?_
 show ABr (!decide (atK g c a=2)) _ _
 refine ⟨fun h=>?_,fun h=>?_⟩
 ·have h:¬ atK g c a=2:=by simpa using h
  rw [if_neg h]
  show ARet _ _ _
  exact ret_d rfl ⟨rfl,rfl⟩
 ·have h:atK g c a=2:=by simpa using h
  rw [if_pos h]
  show ACall _ _ _ _ _ _
  refine call_ret (hHead_spec g a hl) rfl ?_
  show ARet _ _ _
  exact ret_d rfl ⟨rfl,rfl⟩
theorem blackG_col {c d:Col} (h1:d.epoch=c.epoch) (h2:d.major=c.major) (g:Hp) (a:Int):blackG g d a=blackG g c a:=by unfold blackG;rw [atK_col h1 h2]
theorem greyN_col {c d:Col} (h1:d.epoch=c.epoch) (h2:d.major=c.major) (g:Hp) (a:Int):greyN g d a=greyN g c a:=by unfold greyN;rw [atK_col h1 h2]
set_option maxHeartbeats 2000000 in
theorem tfield_spec (g:Hp) (c:Col) (hl:g.light) (hs:g.small) (hk:c.work.length < most):Spec X 91 [] [g.tv,c.tv] (Ret [] (.tup [(fieldS g c).1.tv,(fieldS g c).2.tv])):=by
 refine spec_go X_ok Tryz.f91 (by kernel_rfl) (by kernel_rfl) (by kernel_rfl) fun hb hH=>⟨rfl,?_⟩
 show ADCall _ _ _ _ _ _
 refine .mk _ _ (tgrey_spec g c c.at_ hl hs) rfl ?_
 unfold fieldS
 show ABr (bif decide (c.field_ < 0) then true else decide (c.field_≥greyN g c c.at_)) _ _
 by_cases hf:c.field_ < 0∨greyN g c c.at_≤c.field_
 ·rw [if_pos hf]
  have hc:(bif decide (c.field_ < 0) then true else decide (c.field_≥greyN g c c.at_))=true:=by
   rcases hf with h | h <;> simp [h]
  rw [hc]
  show ABr _ _ _
  refine ⟨fun _=>?_,fun h=>absurd h (by decide)⟩
  show ARet _ _ _
  exact ret_d rfl ⟨rfl,rfl⟩
 ·rw [if_neg hf]
  have hc:(bif decide (c.field_ < 0) then true else decide (c.field_≥greyN g c c.at_))=false:=by
   simp;omega
  rw [hc]
  show ABr _ _ _
  refine ⟨fun h=>absurd h (by decide),fun _=>?_⟩
  have h0:0≤c.field_:=by omega
  have hlt:c.field_ < greyN g c c.at_:=by omega
  have hg2:atK g c c.at_=2:=greyN_pos.1 (by omega)
  have hE:=(grey_adr hg2).1
  have hn:greyN g c c.at_=(headH g c.at_).n:=if_pos hg2
  obtain ⟨hm,_,_⟩:=headE_of hE
  obtain ⟨hmw,_,hlen,_,_,h64⟩:=shapedH_of (mayH_shaped hm)
  obtain ⟨⟨a1,a2⟩,_⟩:=field_adr (f:=c.field_+1) hE (by omega) (by omega)
  have ha16:=(grey_adr hg2).2.2
  have w1:IntKind.i64.wrap (c.at_+1)=c.at_+1:=wrap64 (by omega) (by omega)
  have w2:IntKind.i64.wrap (c.at_+1+c.field_)=c.at_+1+c.field_:=wrap64 (by omega) (by omega)
  have w3:IntKind.i64.wrap (c.field_+1)=c.field_+1:=wrap64 (by omega) (by omega)
  have hv:at0 g.w (IntKind.i64.wrap (IntKind.i64.wrap (c.at_+1)+c.field_) - 16).toNat=wordOf g (c.at_+1+c.field_):=by
   rw [w1,w2]
   unfold wordOf wordAt
   rw [if_pos ⟨hmw,by omega,by omega⟩]
  generalize wordOf g (c.at_+1+c.field_)=v at hv
  show ACall _ _ _ _ _ _
  refine call_ret (aGet_spec g.w (IntKind.i64.wrap (IntKind.i64.wrap (c.at_+1)+c.field_)) hmw (by rw [w1,w2];omega)) rfl ?_
  rw [hv]
  show ACall _ _ _ _ _ _
  refine call_ret (Shade_spec g c v hl hs hk) rfl ?_
  have sm:=shadeC_same g c v
  have ef:IntKind.i64.wrap ((shadeC g c v).field_+1)=c.field_+1:=by rw [sm.field_,w3]
  show ABr (decide (IntKind.i64.wrap ((shadeC g c v).field_+1)=greyN g c c.at_)) _ _
  rw [ef]
  by_cases hl2:c.field_+1=greyN g c c.at_
  ·rw [if_pos hl2,decide_eq_true hl2]
   show ABr _ _ _
   refine ⟨fun _=>?_,fun h=>absurd h (by decide)⟩
   have hMs:=shade_marks g c v
   show ACall _ _ _ _ _ _
   refine call_ret (shBlack_spec (shadeG g c v) { shadeC g c v with field_:=c.field_+1 } c.at_ (hMs.light hl) (hMs.small hs)) rfl ?_
   rw [blackG_col (c:=c) (d:={ shadeC g c v with field_:=c.field_+1 }) sm.epoch sm.major]
   show ARet _ _ _
   exact ret_d rfl ⟨rfl,rfl⟩
  ·rw [if_neg hl2,decide_eq_false hl2]
   show ABr _ _ _
   refine ⟨fun h=>absurd h (by decide),fun _=>?_⟩
   show ARet _ _ _
   exact ret_d rfl ⟨rfl,rfl⟩
theorem lastW {n:Nat} (h:n < most):IntKind.i64.wrap ((n:Int) - 1)=(n:Int) - 1:=wrap64 (by omega) (by unfold most at h;omega)
set_option maxHeartbeats 2000000 in
theorem tStep_spec (g:Hp) (c:Col) (hl:g.light) (hs:g.small) (hk:c.work.length < most):Spec X 46 [] [g.tv,c.tv] (Ret [] (.tup [(traceS g c).1.tv,(traceS g c).2.tv])):=by
 refine spec_go X_ok Tryz.f46 (by kernel_rfl) (by kernel_rfl) (by kernel_rfl) fun hb hH=>⟨rfl,?_⟩
 have hlw:=lastW hk
 show ACall _ _ _ _ _ _
 refine call_ret (hHMay0_spec g hl) rfl ?_
 show ACall _ _ _ _ _ _
 refine call_ret (town_spec g c hs (Nat.le_of_lt hk)) rfl ?_
 unfold traceS
 show ABr (!mayH g []) _ _
 refine ⟨fun h=>?_,fun h=>?_⟩
 ·have hm:mayH g []=false:=by simpa using h
  rw [if_neg (fun k=>by rw [hm] at k;exact Bool.false_ne_true k.1)]
  show ABr _ _ _
  refine ⟨fun _=>?_,fun h=>absurd h (by simp [hm])⟩
  show ARet _ _ _
  exact ret_d rfl ⟨rfl,rfl⟩
 ·have hm:mayH g []=true:=by simpa using h
  show ABr (!decide (c.phase=5)) _ _
  refine ⟨fun h=>?_,fun h=>?_⟩
  ·have hp:c.phase≠5:=by simpa using h
   rw [if_neg (fun k=>hp k.2)]
   show ARet _ _ _
   exact ret_d rfl ⟨rfl,rfl⟩
  ·have hp:c.phase=5:=by simpa using h
   rw [if_pos ⟨hm,hp⟩]
   show ABr (!decide (c.at_=0)) _ _
   refine ⟨fun h=>?_,fun h=>?_⟩
   ·have ha:c.at_≠0:=by simpa using h
    rw [if_pos ha]
    show ACall _ _ _ _ _ _
    refine call_ret (tfield_spec g c hl hs hk) rfl ?_
    show ARet _ _ _
    exact ret_d rfl ⟨rfl,rfl⟩
   ·have ha:c.at_=0:=by simpa using h
    rw [if_neg (fun k=>k ha)]
    show ABr (decide (IntKind.i64.wrap ((c.work.length:Int) - 1)≥0)) _ _
    by_cases hw:0 < c.work.length
    ·rw [if_pos hw,decide_eq_true (show IntKind.i64.wrap ((c.work.length:Int) - 1)≥0 by rw [hlw];omega)]
     show ABr _ _ _
     refine ⟨fun _=>?_,fun h=>absurd h (by decide)⟩
     have e3:c.work.length - 1=(IntKind.i64.wrap ((c.work.length:Int) - 1)).toNat:=by rw [hlw];omega
     show AOb ((0:Int)≤IntKind.i64.wrap ((c.work.length:Int) - 1)∧IntKind.i64.wrap ((c.work.length:Int) - 1) < (c.work.length:Int)) _
     refine ⟨by rw [hlw];omega,?_⟩
     show AOb ((0:Int)≤IntKind.i64.wrap ((c.work.length:Int) - 1)∧IntKind.i64.wrap ((c.work.length:Int) - 1)≤(c.work.length:Int)) _
     refine ⟨by rw [hlw];omega,?_⟩
     rw [e3]
     show ARet _ _ _
     exact ret_d rfl ⟨rfl,rfl⟩
    ·rw [if_neg hw,decide_eq_false (show ¬ IntKind.i64.wrap ((c.work.length:Int) - 1)≥0 by rw [hlw];omega)]
     show ABr _ _ _
     refine ⟨fun h=>absurd h (by decide),fun _=>?_⟩
     show ABr (!decide (c.seek=0)) _ _
     refine ⟨fun h=>?_,fun h=>?_⟩
     ·have hsk:c.seek≠0:=by simpa using h
      rw [if_pos hsk]
      show ACall _ _ _ _ _ _
      refine call_ret (nextC_spec g.pages c.seek) rfl ?_
      show ACall _ _ _ _ _ _
      refine call_ret (tgrey_spec g { c with seek:=nextS g.pages c.seek } (nextS g.pages c.seek) hl hs) rfl ?_
      rw [greyN_col (c:=c) (d:={ c with seek:=nextS g.pages c.seek }) rfl rfl]
      show ABr (decide (greyN g c (nextS g.pages c.seek)=0)) _ _
      refine ⟨fun h=>?_,fun h=>?_⟩
      ·rw [if_pos (of_decide_eq_true h)]
       show ARet _ _ _
       exact ret_d rfl ⟨rfl,rfl⟩
      ·rw [if_neg (of_decide_eq_false h)]
       show ARet _ _ _
       exact ret_d rfl ⟨rfl,rfl⟩
     ·have hsk:c.seek=0:=by simpa using h
      rw [if_neg (fun k=>k hsk)]
      show ABr (c.over) _ _
      refine ⟨fun h=>?_,fun h=>?_⟩
      ·rw [if_pos h]
       show ARet _ _ _
       exact ret_d rfl ⟨rfl,rfl⟩
      ·rw [if_neg (fun k=>by rw [h] at k;cases k)]
       show ARet _ _ _
       exact ret_d rfl ⟨rfl,rfl⟩
end Go.Abs
namespace Go.Abs
open Go.Proofs Go.Proofs.YtejnngjfjaeiiaaGreatDoor
set_option maxRecDepth 8000
theorem wants_spec (p:Int):Spec X 140 [] [.int p] (Ret [] (.int (wantsH p))):=by
 refine spec_go X_ok Tryz.f140 (by kernel_rfl) (by kernel_rfl) (by kernel_rfl) fun hb hH=>⟨rfl,?_⟩
 unfold wantsH
 show ABr (decide (p=0)) _ _
 refine ⟨fun h=>?_,fun h=>?_⟩
 ·rw [if_pos (of_decide_eq_true h)]
  show ARet _ _ _
  exact ret_d rfl ⟨rfl,rfl⟩
 ·rw [if_neg (of_decide_eq_false h)]
  show ABr (decide (p=1)) _ _
  refine ⟨fun h=>?_,fun h=>?_⟩
  ·rw [if_pos (of_decide_eq_true h)]
   show ARet _ _ _
   exact ret_d rfl ⟨rfl,rfl⟩
  ·rw [if_neg (of_decide_eq_false h)]
   show ABr (decide (p=2)) _ _
   refine ⟨fun h=>?_,fun h=>?_⟩
   ·rw [if_pos (of_decide_eq_true h)]
    show ARet _ _ _
    exact ret_d rfl ⟨rfl,rfl⟩
   ·rw [if_neg (of_decide_eq_false h)]
    show ARet _ _ _
    exact ret_d rfl ⟨rfl,rfl⟩
theorem answered_spec (c:Col) (t:Thread):Spec X 83 [] [c.tv,t.tv] (Ret [] (.bo (answeredB c t))):=by
 refine spec_go X_ok Tryz.f83 (by kernel_rfl) (by kernel_rfl) (by kernel_rfl) fun hb hH=>⟨rfl,?_⟩
 show ACall _ _ _ _ _ _
 refine call_ret (wants_spec c.phase) rfl ?_
 unfold wantsH answeredB
 by_cases h0:c.phase=0
 ·rw [if_pos h0,if_pos h0]
  show ABr _ _ _
  refine ⟨fun _=>?_,fun h=>absurd h (by decide)⟩
  show ARet _ _ _
  exact ret_d rfl ⟨rfl,rfl⟩
 ·rw [if_neg h0,if_neg h0]
  by_cases h1:c.phase=1
  ·rw [if_pos h1,if_pos h1]
   show ABr _ _ _
   refine ⟨fun h=>absurd h (by decide),fun _=>?_⟩
   show ABr _ _ _
   refine ⟨fun _=>?_,fun h=>absurd h (by decide)⟩
   show ARet _ _ _
   exact ret_d rfl ⟨rfl,rfl⟩
  ·rw [if_neg h1,if_neg h1]
   by_cases h2:c.phase=2
   ·rw [if_pos h2,if_pos h2]
    show ABr _ _ _
    refine ⟨fun h=>absurd h (by decide),fun _=>?_⟩
    show ABr _ _ _
    refine ⟨fun h=>absurd h (by decide),fun _=>?_⟩
    show ABr _ _ _
    refine ⟨fun _=>?_,fun h=>absurd h (by decide)⟩
    show ARet _ _ _
    refine ret_bo (x:=bif decide (t.epoch=c.epoch) then decide (t.stage≥2) else false) ?_ ⟨rfl,rfl⟩
    rw [decide_and']
    cases decide (t.epoch=c.epoch) <;> rfl
   ·rw [if_neg h2,if_neg h2]
    show ABr _ _ _
    refine ⟨fun h=>absurd h (by decide),fun _=>?_⟩
    show ABr _ _ _
    refine ⟨fun h=>absurd h (by decide),fun _=>?_⟩
    show ABr _ _ _
    refine ⟨fun h=>absurd h (by decide),fun _=>?_⟩
    show ARet _ _ _
    refine ret_bo (x:=bif decide (t.epoch=c.epoch) then decide (t.stage=3) else false) ?_ ⟨rfl,rfl⟩
    rw [decide_and']
    cases decide (t.epoch=c.epoch) <;> rfl
end Go.Abs
namespace Go.Abs
open Go.Proofs Go.Proofs.YtejnngjfjaeiiaaGreatDoor
set_option maxRecDepth 8000
end Go.Abs
namespace Go.Abs
open Go.Proofs Go.Proofs.YtejnngjfjaeiiaaGreatDoor
set_option maxRecDepth 8000
theorem call_fnT {g:Nat} {x:Thread} {cs:List DV} {h:Heap} {base:Nat} {k:TV→Heap→Prop} {b:Bool} (hp:Spec X g [] (x.tv :: capT cs) (Ret [] (.bo b))) (hk:k (.bo b) []) :
  ACall X g (x.tv :: capT cs) h base k:=by
 refine call_ret (r:=.bo b) ?_ (by simp [scalT,scal]) hk
 show Spec X g [] (x.tv :: (capT cs).map (lendT h)) _
 rw [lend_caps]
 exact hp
theorem idxT_none {p:Thread→Bool} {l:List Thread} (h:∀ x∈l,p x=false):l.findIdx? p=none:=by
 rw [List.findIdx?_eq_none_iff]
 exact h
theorem idxT_some {p:Thread→Bool} {l:List Thread} {i:Nat} (hi:i < l.length) (hj:∀ j,j < i→p (l.getD j default)=false) (h:p (l.getD i default)=true):l.findIdx? p=some i:=by
 rw [List.findIdx?_eq_some_iff_getElem]
 refine ⟨hi,?_,fun j hlt=>?_⟩
 ·rw [List.getD_eq_getElem?_getD,List.getElem?_eq_getElem hi] at h
  exact h
 ·have:=hj j hlt
  rw [List.getD_eq_getElem?_getD,List.getElem?_eq_getElem (by omega)] at this
  simpa using this
theorem IndexT_spec (l:List Thread) (g:Nat) (cs:List DV) (p:Thread→Bool) (hp:∀ x∈l,Spec X g [] (x.tv :: capT cs) (Ret [] (.bo (p x)))) :
  Spec X 139 [] [.c (.d (.sl .thread l)),.c (.d (.fn g [] cs))] (Ret [] (.int (idxI (l.findIdx? p)))):=by
 refine spec_go X_ok Tryz.f139 (by kernel_rfl) (by kernel_rfl) (by kernel_rfl) fun hb _=>⟨rfl,?_⟩
 have hla:l.length≤maxN:=(hb (.c (.d (.sl .thread l))) (by simp)).1
 unfold maxN at hla
 show ∃ n,_
 refine ⟨0,ALoop.inv (ι:={i:Nat // i≤l.length∧∀ j,j < i→p (l.getD j default)=false}) (fun i=>⟨[(0,.c (.d (.sl .thread l))),(1,.c (.d (.fn g [] cs))),(7,.int l.length),(8,.int i.1)],[],32⟩) (fun i=>l.length - i.1) ⟨0,Nat.zero_le _,fun j hj=>absurd hj (by omega)⟩ ?_ ?_⟩
 ·exact ⟨[],.cons _ _ _ .same (.cons _ _ _ .same (.cons _ _ _ .same (.cons _ _ _ .same .nil))),.nil,rfl⟩
 ·rintro ⟨i,hi,hn⟩
  show ABr (decide ((i:Int) < (l.length:Int))) _ _
  refine ⟨fun h=>?_,fun h=>?_⟩
  ·have hlt:i < l.length:=by simpa using h
   show AOb ((0:Int)≤(i:Int)∧(i:Int) < (l.length:Int)) _
   refine ⟨by omega,?_⟩
   have hmem:l.getD i default∈l:=by
    rw [List.getD_eq_getElem?_getD,List.getElem?_eq_getElem hlt]
    exact List.getElem_mem hlt
   refine call_fnT (hp (l.getD i default) hmem) ?_
   show ABr (p (l.getD i default)) _ _
   refine ⟨fun h=>?_,fun h=>?_⟩
   ·show ARet _ _ _
    refine ret_int (x:=(i:Int)) ?_ ⟨rfl,rfl⟩
    rw [idxT_some hlt hn h]
    rfl
   ·show ARound _ _ _ _
    exact ⟨⟨i+1,hlt,fun j hj=>by
     by_cases e:j=i
     ·subst e;exact h
     ·exact hn j (by omega)⟩,by show l.length - (i+1) < l.length - i;omega,[],.cons _ _ _ .same (.cons _ _ _ .same (.cons _ _ _ .same (.cons _ _ _ (.int_eq (wrapP (i:=i) (by unfold maxN;omega))) .nil))),.nil,rfl⟩
  ·have hge:i=l.length:=by simp at h;omega
   show ARet _ _ _
   refine ret_int (x:=-1) ?_ ⟨rfl,rfl⟩
   rw [idxT_none fun x hx=>?_]
   ·rfl
   ·obtain ⟨j,hj,e⟩:=List.mem_iff_getElem.1 hx
    have:=hn j (by omega)
    rw [show l.getD j default=x from by rw [List.getD_eq_getElem?_getD,List.getElem?_eq_getElem hj,e];rfl] at this
    exact this
theorem idxT_ge (p : Thread → Bool) (l : List Thread) : decide (idxI (l.findIdx? p) ≥ 0) = l.any p := by
  cases h : l.findIdx? p with
  | none =>
    rw [List.findIdx?_eq_none_iff] at h
    symm
    show l.any p = decide ((-1 : Int) ≥ 0)
    rw [show decide ((-1 : Int) ≥ 0) = false by decide, List.any_eq_false]
    intro x hx
    rw [h x hx]
    decide
  | some i =>
    rw [List.findIdx?_eq_some_iff_getElem] at h
    obtain ⟨h1, h2, _⟩ := h
    symm
    rw [List.any_eq_true.2 ⟨_, List.getElem_mem h1, h2⟩]
    show true = decide ((i : Int) ≥ 0)
    rw [decide_eq_true (by omega)]
theorem ContainsT_spec (l:List Thread) (g:Nat) (cs:List DV) (p:Thread→Bool) (hp:∀ x∈l,Spec X g [] (x.tv :: capT cs) (Ret [] (.bo (p x)))) :
  Spec X 81 [] [.c (.d (.sl .thread l)),.c (.d (.fn g [] cs))] (Ret [] (.bo (l.any p))):=by
 refine spec_go X_ok Tryz.f81 (by kernel_rfl) (by kernel_rfl) (by kernel_rfl) fun hb _=>⟨rfl,?_⟩
 show ACall _ _ _ _ _ _
 refine call_ret (IndexT_spec l g cs p hp) rfl ?_
 show ARet _ _ _
 refine ret_bo (x:=decide (idxI (l.findIdx? p)≥0)) (idxT_ge p l) ⟨rfl,rfl⟩
theorem hAll1_spec (c:Col) (t:Thread):Spec X 82 [] (t.tv :: capT [.rp c.enc]) (Ret [] (.bo (bif t.live then !answeredB c t else false))):=by
 refine spec_go X_ok Tryz.f82 (by kernel_rfl) (by kernel_rfl) (by kernel_rfl) fun hb _=>⟨rfl,?_⟩
 show AIf (t.live=true∧True) _ _
 by_cases hl:t.live=true
 ·refine ⟨fun _=>?_,fun h=>absurd ⟨hl,trivial⟩ h⟩
  show ACall _ _ _ _ _ _
  refine call_ret (answered_spec c t) rfl ?_
  show ARet _ _ _
  refine ret_bo (x:=!answeredB c t) ?_ ⟨rfl,rfl⟩
  rw [hl]
  rfl
 ·refine ⟨fun h=>absurd h.1 hl,fun _=>?_⟩
  show AOb _ _
  refine ⟨by simpa using hl,?_⟩
  show ARet _ _ _
  refine ret_bo (x:=false) ?_ ⟨rfl,rfl⟩
  rw [show t.live=false by simpa using hl]
  rfl
theorem allB_any (c:Col) (l:List Thread):(!l.any fun t=>bif t.live then !answeredB c t else false)=allB c l:=by
 unfold allB
 rw [List.not_any_eq_all_not]
 congr 1
 funext t
 cases t.live <;> simp
theorem hAll_spec (c:Col) (l:List Thread):Spec X 43 [] [c.tv,.c (.d (.sl .thread l))] (Ret [] (.bo (allB c l))):=by
 refine spec_go X_ok Tryz.f43 (by kernel_rfl) (by kernel_rfl) (by kernel_rfl) fun hb hH=>⟨rfl,?_⟩
 show ACall _ _ _ _ _ _
 refine call_ret (ContainsT_spec l 82 [.rp c.enc] (fun t=>bif t.live then !answeredB c t else false) (fun x _=>hAll1_spec c x)) rfl ?_
 show ARet _ _ _
 refine ret_bo (x:=!l.any fun t=>bif t.live then !answeredB c t else false) (allB_any c l) ⟨rfl,rfl⟩
def Col.zero:Col:=⟨0,0,false,[],false,0,0,0,0,false⟩
end Go.Abs
namespace Go.Abs
open Go.Proofs Go.Proofs.YtejnngjfjaeiiaaGreatDoor
set_option maxRecDepth 8000
theorem allB_append (c:Col) (l m:List Thread):allB c (l ++ m)=(allB c l && allB c m):=by unfold allB;rw [List.all_append]
theorem allB_one (c:Col) (t:Thread):allB c [t]=(!t.live || answeredB c t):=by unfold allB;simp
theorem allB_take {l:List Thread} {i:Nat} (h:i < l.length) (c:Col):allB c (l.take (i+1))=(allB c (l.take i) && allB c [l.getD i default]):=by
 rw [← allB_append]
 congr 1
 rw [List.getD_eq_getElem?_getD,List.getElem?_eq_getElem h,List.take_succ,List.getElem?_eq_getElem h]
 rfl
end Go.Abs
namespace Go.Abs
open Go.Proofs Go.Proofs.YtejnngjfjaeiiaaGreatDoor
set_option maxRecDepth 8000
theorem cyIn_spec (n low high:Int):Spec X 40 [] [.int n,.int low,.int high] (Ret [] (.bo (decide (low≤n∧n≤high)))):=by
 refine spec_go X_ok Tryz.f40 (by kernel_rfl) (by kernel_rfl) (by kernel_rfl) fun hb hH=>⟨rfl,?_⟩
 show ARet _ _ _
 refine ret_bo (x:=bif decide (n≥low) then decide (n≤high) else false) ?_ ⟨rfl,rfl⟩
 by_cases h1:low≤n
 ·rw [decide_eq_true (show n≥low from h1)]
  by_cases h2:n≤high
  ·rw [decide_eq_true h2,decide_eq_true (show low≤n∧n≤high from ⟨h1,h2⟩)];rfl
  ·rw [decide_eq_false h2,decide_eq_false (show ¬ (low≤n∧n≤high) from fun k=>h2 k.2)];rfl
 ·rw [decide_eq_false (show ¬ n≥low from h1),decide_eq_false (show ¬ (low≤n∧n≤high) from fun k=>h1 k.1)];rfl
theorem mayC_parts (c:Col):mayC c=(decide (0≤c.phase∧c.phase≤6) && (decide ((if c.phase=0 then 0 else 1)≤c.epoch∧c.epoch≤1048576) && decide ((c.work.length:Int)≤4))):=by
 unfold mayC
 rw [← Bool.decide_and,← Bool.decide_and]
 exact decide_eq_decide.2 ⟨fun ⟨a,b,c,d,e⟩=>⟨⟨a,b⟩,⟨c,d⟩,e⟩,fun ⟨⟨a,b⟩,⟨c,d⟩,e⟩=>⟨a,b,c,d,e⟩⟩
theorem cyMay_spec (c : Col) : Spec X 13 [] [c.tv] (Ret [] (.bo (mayC c))) := by
  refine spec_go X_ok Tryz.f13 (by kernel_rfl) (by kernel_rfl) (by kernel_rfl) fun hb hH => ⟨rfl, ?_⟩
  rw [mayC_parts]
  show ABr (c.phase == 0) _ _
  by_cases h0 : c.phase = 0
  · rw [if_pos h0, show (c.phase == 0) = true by simpa using h0]
    show ABr _ _ _
    refine ⟨fun _ => ?_, fun h => absurd h (by decide)⟩
    show ACall _ _ _ _ _ _
    refine call_ret (cyIn_spec c.phase 0 6) rfl ?_
    cases hA : decide (0 ≤ c.phase ∧ c.phase ≤ 6) with
    | false =>
      show AIf _ _ _
      refine ⟨fun h => absurd h.1 (by decide), fun _ => ?_⟩
      show AOb _ _
      refine ⟨by decide, ?_⟩
      show ARet _ _ _
      refine ret_bo (x := bif false then decide ((c.work.length : Int) ≤ 4) else false) rfl ⟨rfl, rfl⟩
    | true =>
      show AIf _ _ _
      refine ⟨fun _ => ?_, fun h => absurd ⟨(by rfl), trivial⟩ h⟩
      show ACall _ _ _ _ _ _
      refine call_ret (cyIn_spec c.epoch 0 1048576) rfl ?_
      show ARet _ _ _
      refine ret_bo (x := bif decide (0 ≤ c.epoch ∧ c.epoch ≤ 1048576) then decide ((c.work.length : Int) ≤ 4) else false) (by cases decide (0 ≤ c.epoch ∧ c.epoch ≤ 1048576) <;> rfl) ⟨rfl, rfl⟩
  · rw [if_neg h0, show (c.phase == 0) = false by simpa using h0]
    show ABr _ _ _
    refine ⟨fun h => absurd h (by decide), fun _ => ?_⟩
    show ACall _ _ _ _ _ _
    refine call_ret (cyIn_spec c.phase 0 6) rfl ?_
    cases hA : decide (0 ≤ c.phase ∧ c.phase ≤ 6) with
    | false =>
      show AIf _ _ _
      refine ⟨fun h => absurd h.1 (by decide), fun _ => ?_⟩
      show AOb _ _
      refine ⟨by decide, ?_⟩
      show ARet _ _ _
      refine ret_bo (x := bif false then decide ((c.work.length : Int) ≤ 4) else false) rfl ⟨rfl, rfl⟩
    | true =>
      show AIf _ _ _
      refine ⟨fun _ => ?_, fun h => absurd ⟨(by rfl), trivial⟩ h⟩
      show ACall _ _ _ _ _ _
      refine call_ret (cyIn_spec c.epoch 1 1048576) rfl ?_
      show ARet _ _ _
      refine ret_bo (x := bif decide (1 ≤ c.epoch ∧ c.epoch ≤ 1048576) then decide ((c.work.length : Int) ≤ 4) else false) (by cases decide (1 ≤ c.epoch ∧ c.epoch ≤ 1048576) <;> rfl) ⟨rfl, rfl⟩
theorem cyQuiet_spec (c:Col):Spec X 18 [] [c.tv] (Ret [] (.bo (decide (c.phase=0)))):=by
 refine spec_go X_ok Tryz.f18 (by kernel_rfl) (by kernel_rfl) (by kernel_rfl) fun hb hH=>⟨rfl,?_⟩
 show ARet _ _ _
 refine ret_bo (x:=c.phase == 0) rfl ⟨rfl,rfl⟩
theorem startC_no {c:Col} {m:Bool} (h:startE c≠0):startC c m=Col.none:=by unfold startC;rw [if_neg h]
theorem startC_yes {c:Col} {m:Bool} (h:startE c=0):startC c m=⟨1,c.epoch+1,m,[],false,0,0,0,0,false⟩:=by unfold startC;rw [if_pos h]
theorem startE_cases (c : Col) : (mayC c = false ∧ startE c = 1) ∨ (mayC c = true ∧ c.phase ≠ 0 ∧ startE c = 4) ∨ (mayC c = true ∧ c.phase = 0 ∧ c.epoch = 1048576 ∧ startE c = 2) ∨ (mayC c = true ∧ c.phase = 0 ∧ c.epoch ≠ 1048576 ∧ startE c = 0) := by
  unfold startE
  cases h : mayC c with
  | false => exact .inl ⟨rfl, if_neg (by decide)⟩
  | true =>
    rw [if_pos rfl]
    by_cases h0 : c.phase = 0
    · rw [if_pos h0]
      by_cases h1 : c.epoch = 1048576
      · exact .inr (.inr (.inl ⟨rfl, h0, h1, if_pos h1⟩))
      · exact .inr (.inr (.inr ⟨rfl, h0, h1, if_neg h1⟩))
    · rw [if_neg h0]
      exact .inr (.inl ⟨rfl, h0, rfl⟩)
theorem cyStart_spec (c:Col) (m:Bool):Spec X 17 [] [c.tv,.bo m] (Ret [] (.tup [(startC c m).tv,.int (startE c)])):=by
 refine spec_go X_ok Tryz.f17 (by kernel_rfl) (by kernel_rfl) (by kernel_rfl) fun hb hH=>⟨rfl,?_⟩
 show ACall _ _ _ _ _ _
 refine call_ret (cyMay_spec c) rfl ?_
 rcases startE_cases c with ⟨h1,e⟩ | ⟨h1,h2,e⟩ | ⟨h1,h2,h3,e⟩ | ⟨h1,h2,h3,e⟩
 ·rw [startC_no (by omega),e,h1]
  show ABr _ _ _
  refine ⟨fun _=>?_,fun h=>absurd h (by decide)⟩
  show ARet _ _ _
  exact ⟨[],[],[Col.none.tv,.int 1],.cons _ _ _ _ (.agg _ _ (.cons _ _ _ _ (.d _) (.cons _ _ _ _ (.d _) (.cons _ _ _ _ (.d _) (.cons _ _ _ _ (.nilsl .int) (LeL_refl rfl)))))) (.cons _ _ _ _ .same .nil),.nil,rfl,rfl,rfl⟩
 ·rw [startC_no (by omega),e,h1]
  show ABr _ _ _
  refine ⟨fun h=>absurd h (by decide),fun _=>?_⟩
  show ACall _ _ _ _ _ _
  refine call_ret (cyQuiet_spec c) rfl ?_
  rw [decide_eq_false h2]
  show ABr _ _ _
  refine ⟨fun _=>?_,fun h=>absurd h (by decide)⟩
  show ARet _ _ _
  exact ⟨[],[],[Col.none.tv,.int 4],.cons _ _ _ _ (.agg _ _ (.cons _ _ _ _ (.d _) (.cons _ _ _ _ (.d _) (.cons _ _ _ _ (.d _) (.cons _ _ _ _ (.nilsl .int) (LeL_refl rfl)))))) (.cons _ _ _ _ .same .nil),.nil,rfl,rfl,rfl⟩
 ·rw [startC_no (by omega),e,h1]
  show ABr _ _ _
  refine ⟨fun h=>absurd h (by decide),fun _=>?_⟩
  show ACall _ _ _ _ _ _
  refine call_ret (cyQuiet_spec c) rfl ?_
  rw [decide_eq_true h2]
  show ABr _ _ _
  refine ⟨fun h=>absurd h (by decide),fun _=>?_⟩
  show ABr (c.epoch == 1048576) _ _
  rw [show (c.epoch == 1048576)=true by simpa using h3]
  show ABr _ _ _
  refine ⟨fun _=>?_,fun h=>absurd h (by decide)⟩
  show ARet _ _ _
  exact ⟨[],[],[Col.none.tv,.int 2],.cons _ _ _ _ (.agg _ _ (.cons _ _ _ _ (.d _) (.cons _ _ _ _ (.d _) (.cons _ _ _ _ (.d _) (.cons _ _ _ _ (.nilsl .int) (LeL_refl rfl)))))) (.cons _ _ _ _ .same .nil),.nil,rfl,rfl,rfl⟩
 ·have hc:=may_c h1
  rw [startC_yes e,e,h1]
  show ABr _ _ _
  refine ⟨fun h=>absurd h (by decide),fun _=>?_⟩
  show ACall _ _ _ _ _ _
  refine call_ret (cyQuiet_spec c) rfl ?_
  rw [decide_eq_true h2]
  show ABr _ _ _
  refine ⟨fun h=>absurd h (by decide),fun _=>?_⟩
  show ABr (c.epoch == 1048576) _ _
  rw [show (c.epoch == 1048576)=false by simpa using h3]
  show ABr _ _ _
  refine ⟨fun h=>absurd h (by decide),fun _=>?_⟩
  show ARet _ _ _
  exact ⟨[],[],[(⟨1,c.epoch+1,m,[],false,0,0,0,0,false⟩:Col).tv,.int 0],.cons _ _ _ _ (.agg _ _ (.cons _ _ _ _ (.d _) (.cons _ _ _ _ (.int_eq (wrap64 (by omega) (by omega))) (.cons _ _ _ _ (.d _) (.cons _ _ _ _ (.nilsl .int) (LeL_refl rfl)))))) (.cons _ _ _ _ .same .nil),.nil,rfl,rfl,rfl⟩
theorem cyOwn_spec (g:Hp) (c:Col) (hs:g.small) (hw:c.work.length≤most):Spec X 42 [] [g.tv,c.tv] (Ret [] (.tup [g.tv,c.tv])):=by
 refine spec_go X_ok Tryz.f42 (by kernel_rfl) (by kernel_rfl) (by kernel_rfl) fun hb hH=>⟨rfl,?_⟩
 obtain ⟨h1,h2,h3,h4,h5,h6⟩:=hs
 show ADCall _ _ _ _ _ _
 refine .mk _ _ (CloneInts_spec g.w h1) rfl ?_
 show ADCall _ _ _ _ _ _
 refine .mk _ _ (ClonePages_spec g.pages h2) rfl ?_
 show ADCall _ _ _ _ _ _
 refine .mk _ _ (CloneBools_spec g.cards h3) rfl ?_
 show ∃ n,_
 refine ⟨4,?_⟩
 show ALoop _ _ _ _
 refine .next ?_
 show ABr _ _ _
 refine ⟨fun _=>?_,fun h=>absurd h (by decide)⟩
 show AOb _ _
 refine ⟨by decide,?_⟩
 show ACall _ _ _ _ _ _
 refine call_ret (CloneInts_spec g.free.l0 h4) rfl ?_
 show AOb _ _
 refine ⟨by decide,?_⟩
 show ALoop _ _ _ _
 refine .next ?_
 show ABr _ _ _
 refine ⟨fun _=>?_,fun h=>absurd h (by decide)⟩
 show AOb _ _
 refine ⟨by decide,?_⟩
 show ACall _ _ _ _ _ _
 refine call_ret (CloneInts_spec g.free.l1 h5) rfl ?_
 show AOb _ _
 refine ⟨by decide,?_⟩
 show ALoop _ _ _ _
 refine .next ?_
 show ABr _ _ _
 refine ⟨fun _=>?_,fun h=>absurd h (by decide)⟩
 show AOb _ _
 refine ⟨by decide,?_⟩
 show ACall _ _ _ _ _ _
 refine call_ret (CloneInts_spec g.free.l2 h6) rfl ?_
 show AOb _ _
 refine ⟨by decide,?_⟩
 show ALoop _ _ _ _
 refine .next ?_
 show ABr _ _ _
 refine ⟨fun h=>absurd h (by decide),fun _=>?_⟩
 show ACall _ _ _ _ _ _
 refine call_ret (CloneInts_spec c.work hw) rfl ?_
 show ARet _ _ _
 exact ret_d rfl ⟨rfl,rfl⟩
theorem cyNext_spec (c : Col) (h : 1 ≤ c.phase) (h3 : c.phase ≤ 3) : Spec X 44 [] [c.tv] (Ret [] (nextP c).tv) := by
  refine spec_go X_ok Tryz.f44 (by kernel_rfl) (by kernel_rfl) (by kernel_rfl) fun hb hH => ⟨rfl, ?_⟩
  have w : IntKind.i64.wrap (c.phase + 1) = c.phase + 1 := wrap64 (by omega) (by omega)
  unfold nextP
  show ABr (IntKind.i64.wrap (c.phase + 1) == 4) _ _
  by_cases hp : c.phase = 3
  · rw [if_pos hp, show (IntKind.i64.wrap (c.phase + 1) == 4) = true by rw [w, hp]; rfl]
    show ABr _ _ _
    refine ⟨fun _ => ?_, fun h => absurd h (by decide)⟩
    show ABr c.major _ _
    cases hm : c.major with
    | true =>
      show ABr _ _ _
      refine ⟨fun _ => ?_, fun h => absurd h (by decide)⟩
      show ARet _ _ _
      exact ret_d rfl ⟨rfl, rfl⟩
    | false =>
      show ABr _ _ _
      refine ⟨fun h => absurd h (by decide), fun _ => ?_⟩
      show ARet _ _ _
      refine ret1 (.agg _ _ (.cons _ _ _ _ (.int_eq (y := 4) (by rw [w, hp]; rfl)) (LeL_refl rfl))) ⟨rfl, rfl⟩
  · rw [if_neg hp, show (IntKind.i64.wrap (c.phase + 1) == 4) = false by rw [w]; simp; omega]
    show ABr _ _ _
    refine ⟨fun h => absurd h (by decide), fun _ => ?_⟩
    show ARet _ _ _
    refine ret1 (.agg _ _ (.cons _ _ _ _ (.int_eq (y := c.phase + 1) w) (LeL_refl rfl))) ⟨rfl, rfl⟩
theorem cyWait_spec (g : Hp) (c : Col) (l : List Thread) (hs : g.small) (hw : c.work.length ≤ most) (h : 1 ≤ c.phase) (h3 : c.phase ≤ 3) : Spec X 41 [] [g.tv, c.tv, .c (.d (.rp [.sl .thread l]))] (Ret [] (.tup [g.tv, (waitC c l).tv])) := by
  refine spec_go X_ok Tryz.f41 (by kernel_rfl) (by kernel_rfl) (by kernel_rfl) fun hb hH => ⟨rfl, ?_⟩
  show ACall _ _ _ _ _ _
  refine call_ret (cyOwn_spec g c hs hw) rfl ?_
  show ACall _ _ _ _ _ _
  refine call_ret (hAll_spec c l) rfl ?_
  unfold waitC
  cases ha : allB c l with
  | true =>
    rw [if_pos rfl]
    show ABr _ _ _
    refine ⟨fun _ => ?_, fun h => absurd h (by decide)⟩
    show ACall _ _ _ _ _ _
    refine call_ret (cyNext_spec c h h3) rfl ?_
    show ARet _ _ _
    exact ret_d rfl ⟨rfl, rfl⟩
  | false =>
    rw [if_neg (by decide)]
    show ABr _ _ _
    refine ⟨fun h => absurd h (by decide), fun _ => ?_⟩
    show ARet _ _ _
    exact ret_d rfl ⟨rfl, rfl⟩
theorem cycS_no {g:Hp} {c:Col} {l:List Thread} (h:¬ (mayC c=true∧c.phase≠0)):cycS g c l=(g,c):=by unfold cycS;rw [if_neg h]
theorem cycS_wait {g:Hp} {c:Col} {l:List Thread} (hm:mayC c=true) (h:1≤c.phase) (h3:c.phase≤3):cycS g c l=(g,waitC c l):=by unfold cycS;rw [if_pos ⟨hm,by omega⟩,if_neg (by omega),if_neg (by omega),if_neg (by omega)]
theorem cycS_4 {g:Hp} {c:Col} {l:List Thread} (hm:mayC c=true) (h:c.phase=4):cycS g c l=scanS g c:=by unfold cycS;rw [if_pos ⟨hm,by omega⟩,if_pos h]
theorem cycS_5 {g:Hp} {c:Col} {l:List Thread} (hm:mayC c=true) (h:c.phase=5):cycS g c l=traceS g c:=by unfold cycS;rw [if_pos ⟨hm,by omega⟩,if_neg (by omega),if_pos h]
theorem cycS_6 {g:Hp} {c:Col} {l:List Thread} (hm:mayC c=true) (h:c.phase=6):cycS g c l=sweepS g c:=by unfold cycS;rw [if_pos ⟨hm,by omega⟩,if_neg (by omega),if_neg (by omega),if_pos h]
set_option maxHeartbeats 4000000 in
theorem cyStep_spec (g : Hp) (c : Col) (l : List Thread) (hl : g.light) (hs : g.small) (hw : c.work.length < most) : Spec X 14 [] [g.tv, c.tv, .c (.d (.sl .thread l))] (Ret [] (.tup [(cycS g c l).1.tv, (cycS g c l).2.tv])) := by
  obtain ⟨ph, ep, mj, wk, ov, ca, cf, ck, cc, cm⟩ := c
  refine Spec.fb (spec_go Xb_ok Tryz.f14 (by kernel_rfl) (by kernel_rfl) (by kernel_rfl) fun hb hH => ⟨rfl, ?_⟩)
  show ACall _ _ _ _ _ _
  refine call_ret ((cyMay_spec ⟨ph, ep, mj, wk, ov, ca, cf, ck, cc, cm⟩).ub) rfl ?_
  cases hm : mayC ⟨ph, ep, mj, wk, ov, ca, cf, ck, cc, cm⟩ with
  | false =>
    rw [cycS_no (fun k => by rw [hm] at k; cases k.1)]
    show ABr _ _ _
    refine ⟨fun _ => ?_, fun h => absurd h (by decide)⟩
    show ACall _ _ _ _ _ _
    refine call_ret ((cyOwn_spec g ⟨ph, ep, mj, wk, ov, ca, cf, ck, cc, cm⟩ hs (by omega)).ub) rfl ?_
    show ARet _ _ _
    exact ret_d rfl ⟨rfl, rfl⟩
  | true =>
    show ABr _ _ _
    refine ⟨fun h => absurd h (by decide), fun _ => ?_⟩
    obtain ⟨m1, m2, _⟩ := may_c hm
    have hc : ph = 0 ∨ ph = 1 ∨ ph = 2 ∨ ph = 3 ∨ ph = 4 ∨ ph = 5 ∨ ph = 6 := by
      have m1 : 0 ≤ ph := m1
      have m2 : ph ≤ 6 := m2
      omega
    rcases hc with e | e | e | e | e | e | e
    · subst e
      rw [cycS_no (fun k => k.2 rfl)]
      show AOb ((0 : Int) ≤ 0 ∧ (0 : Int) < 7) _
      refine ⟨by decide, ?_⟩
      show ADCall _ _ _ _ _ _
      refine .mk _ _ ((cyOwn_spec g _ hs (by omega)).ub) rfl ?_
      show ARet _ _ _
      exact ret_d rfl ⟨rfl, rfl⟩
    · subst e
      rw [cycS_wait hm (by show (1 : Int) ≤ 1; decide) (by show (1 : Int) ≤ 3; decide)]
      show AOb ((0 : Int) ≤ 1 ∧ (1 : Int) < 7) _
      refine ⟨by decide, ?_⟩
      show ADCall _ _ _ _ _ _
      refine .mk _ _ ((cyWait_spec g _ l hs (by omega) (by show (1 : Int) ≤ 1; decide) (by show (1 : Int) ≤ 3; decide)).ub) rfl ?_
      show ARet _ _ _
      exact ret_d rfl ⟨rfl, rfl⟩
    · subst e
      rw [cycS_wait hm (by show (1 : Int) ≤ 2; decide) (by show (2 : Int) ≤ 3; decide)]
      show AOb ((0 : Int) ≤ 2 ∧ (2 : Int) < 7) _
      refine ⟨by decide, ?_⟩
      show ADCall _ _ _ _ _ _
      refine .mk _ _ ((cyWait_spec g _ l hs (by omega) (by show (1 : Int) ≤ 2; decide) (by show (2 : Int) ≤ 3; decide)).ub) rfl ?_
      show ARet _ _ _
      exact ret_d rfl ⟨rfl, rfl⟩
    · subst e
      rw [cycS_wait hm (by show (1 : Int) ≤ 3; decide) (by show (3 : Int) ≤ 3; decide)]
      show AOb ((0 : Int) ≤ 3 ∧ (3 : Int) < 7) _
      refine ⟨by decide, ?_⟩
      show ADCall _ _ _ _ _ _
      refine .mk _ _ ((cyWait_spec g _ l hs (by omega) (by show (1 : Int) ≤ 3; decide) (by show (3 : Int) ≤ 3; decide)).ub) rfl ?_
      show ARet _ _ _
      exact ret_d rfl ⟨rfl, rfl⟩
    · subst e
      rw [cycS_4 hm rfl]
      show AOb ((0 : Int) ≤ 4 ∧ (4 : Int) < 7) _
      refine ⟨by decide, ?_⟩
      show ADCall _ _ _ _ _ _
      refine .mk _ _ ((sStep_spec g _ hl hs hw).ub) rfl ?_
      show ARet _ _ _
      exact ret_d rfl ⟨rfl, rfl⟩
    · subst e
      rw [cycS_5 hm rfl]
      show AOb ((0 : Int) ≤ 5 ∧ (5 : Int) < 7) _
      refine ⟨by decide, ?_⟩
      show ADCall _ _ _ _ _ _
      refine .mk _ _ ((tStep_spec g _ hl hs hw).ub) rfl ?_
      show ARet _ _ _
      exact ret_d rfl ⟨rfl, rfl⟩
    · subst e
      rw [cycS_6 hm rfl]
      show AOb ((0 : Int) ≤ 6 ∧ (6 : Int) < 7) _
      refine ⟨by decide, ?_⟩
      show ADCall _ _ _ _ _ _
      refine .mk _ _ ((swStep_spec g _ hl hs (by omega)).ub) rfl ?_
      show ARet _ _ _
      exact ret_d rfl ⟨rfl, rfl⟩
end Go.Abs
namespace Go.Abs
open Go.Proofs Go.Proofs.YtejnngjfjaeiiaaGreatDoor
set_option maxRecDepth 8000
end Go.Abs
namespace Go.Abs
open Go.Proofs Go.Proofs.YtejnngjfjaeiiaaGreatDoor
set_option maxRecDepth 8000
end Go.Abs
namespace Go.Abs
open Go.Proofs Go.Proofs.YtejnngjfjaeiiaaGreatDoor
set_option maxRecDepth 8000
end Go.Abs
namespace Go.Abs
open Go.Proofs Go.Proofs.YtejnngjfjaeiiaaGreatDoor
set_option maxRecDepth 8000
end Go.Abs
namespace Go.Abs
open Go.Proofs Go.Proofs.YtejnngjfjaeiiaaGreatDoor
set_option maxRecDepth 8000
end Go.Abs
namespace Go.Abs
open Go.Proofs Go.Proofs.YtejnngjfjaeiiaaGreatDoor
set_option maxRecDepth 8000
end Go.Abs
namespace Go.Abs
open Go.Proofs Go.Proofs.YtejnngjfjaeiiaaGreatDoor
set_option maxRecDepth 8000
theorem rAnswered_spec (c:Col) (t:Thread):Spec X 48 [] [c.tv,t.tv] (Ret [] (.bo (answeredB c t))):=by
 refine spec_go X_ok Tryz.f48 (by kernel_rfl) (by kernel_rfl) (by kernel_rfl) fun hb hH=>⟨rfl,?_⟩
 unfold answeredB
 show ABr (decide (c.phase=0)) _ _
 refine ⟨fun h=>?_,fun h=>?_⟩
 ·rw [if_pos (of_decide_eq_true h)]
  show ARet _ _ _
  exact ret_d rfl ⟨rfl,rfl⟩
 ·rw [if_neg (of_decide_eq_false h)]
  show ABr (!decide (t.epoch=c.epoch)) _ _
  refine ⟨fun h=>?_,fun h=>?_⟩
  ·have he:¬ t.epoch=c.epoch:=by simpa using h
   show ARet _ _ _
   refine ret_bo (x:=false) ?_ ⟨rfl,rfl⟩
   split
   ·rw [decide_eq_false he]
   ·split
    ·rw [decide_eq_false fun k=>he k.1]
    ·rw [decide_eq_false fun k=>he k.1]
  ·have he:t.epoch=c.epoch:=by simpa using h
   show ABr (decide (c.phase=1)) _ _
   refine ⟨fun h=>?_,fun h=>?_⟩
   ·rw [if_pos (of_decide_eq_true h)]
    show ARet _ _ _
    refine ret_bo (x:=true) ?_ ⟨rfl,rfl⟩
    rw [decide_eq_true he]
   ·rw [if_neg (of_decide_eq_false h)]
    show ABr (decide (c.phase=2)) _ _
    refine ⟨fun h=>?_,fun h=>?_⟩
    ·rw [if_pos (of_decide_eq_true h)]
     show ARet _ _ _
     refine ret_bo (x:=decide (t.stage≥2)) ?_ ⟨rfl,rfl⟩
     rw [decide_eq_decide]
     exact ⟨fun k=>⟨he,k⟩,fun k=>k.2⟩
    ·rw [if_neg (of_decide_eq_false h)]
     show ARet _ _ _
     refine ret_bo (x:=decide (t.stage=3)) ?_ ⟨rfl,rfl⟩
     rw [decide_eq_decide]
     exact ⟨fun k=>⟨he,k⟩,fun k=>k.2⟩
theorem rAll15_spec (c:Col) (l:List Thread):Spec X 15 [] [c.tv,.c (.d (.sl .thread l))] (Ret [] (.bo (allB c l))):=by
 refine spec_go X_ok Tryz.f15 (by kernel_rfl) (by kernel_rfl) (by kernel_rfl) fun hb hH=>⟨rfl,?_⟩
 have hla:l.length≤maxN:=(hb (.c (.d (.sl .thread l))) (by simp)).1
 unfold maxN at hla
 show ∃ n,_
 refine ⟨0,ALoop.inv (ι:={i:Nat // i≤l.length∧allB c (l.take i)=true}) (fun q=>⟨[(1,.c (.d (.sl .thread (l)))),(2,.c (.d (.rp (c.enc)))),(5,.int (q.1))],[],32⟩) (fun q=>l.length - q.1) ⟨0,Nat.zero_le _,by rw [List.take_zero];rfl⟩ ?_ ?_⟩
 ·exact ⟨[],(by repeat' first | exact .nil | refine .cons _ _ _ ?_ ?_ | exact .same | exact .c _ _ (.own _ _ rfl) | exact .c _ _ (.ptr _ _ _ _ rfl) | exact .c _ _ (.frz _ _ rfl) | exact .any _),(by exact .nil),(by rfl)⟩
 rintro ⟨i,hi,hv⟩
 have hi:i≤l.length:=hi
 have hv:allB c (l.take i)=true:=hv
 show ABr (decide ((i:Int) < (l.length:Int))) _ _
 refine ⟨fun h=>?_,fun h=>?_⟩
 ·have hlt:i < l.length:=by simpa using h
  have wi:IntKind.i64.wrap ((i:Int)+1)=((i+1:Nat):Int):=wrapP (i:=i) (by unfold maxN;omega)
  have hst:=allB_take hlt c
  rw [hv,Bool.true_and,allB_one] at hst
  show AOb ((0:Int)≤(i:Int)∧(i:Int) < (l.length:Int)) _
  refine ⟨by omega,?_⟩
  show ABr ((l.getD i default).live) _ _
  refine ⟨fun h=>?_,fun h=>?_⟩
  ·rw [h] at hst
   show AOb ((0:Int)≤(i:Int)∧(i:Int) < (l.length:Int)) _
   refine ⟨by omega,?_⟩
   show ADCall _ _ _ _ _ _
   refine .mk _ _ (rAnswered_spec c (l.getD i default)) rfl ?_
   show ABr (!answeredB c (l.getD i default)) _ _
   refine ⟨fun h=>?_,fun h=>?_⟩
   ·have hz:answeredB c (l.getD i default)=false:=by simpa using h
    show ARet _ _ _
    refine ret_bo (x:=false) ?_ ⟨rfl,rfl⟩
    rw [hz] at hst
    have:allB c l=(allB c (l.take (i+1)) && allB c (l.drop (i+1))):=by rw [← allB_append,List.take_append_drop]
    rw [this,hst]
    rfl
   ·have hz:answeredB c (l.getD i default)=true:=by simpa using h
    rw [hz,Bool.or_true] at hst
    show ARound _ _ _ _
    exact ⟨⟨i+1,hlt,hst⟩,(by dsimp only;omega),[],(by repeat' first | exact .nil | refine .cons _ _ _ ?_ ?_ | exact .int_eq wi | exact .same | exact .c _ _ (.own _ _ rfl) | exact .c _ _ (.ptr _ _ _ _ rfl) | exact .c _ _ (.frz _ _ rfl) | exact .any _),(by exact .nil),(by rfl)⟩
  ·rw [h,Bool.not_false,Bool.true_or] at hst
   show ABr _ _ _
   refine ⟨fun h=>absurd h (by decide),fun _=>?_⟩
   show ARound _ _ _ _
   exact ⟨⟨i+1,hlt,hst⟩,(by dsimp only;omega),[],(by repeat' first | exact .nil | refine .cons _ _ _ ?_ ?_ | exact .int_eq wi | exact .same | exact .c _ _ (.own _ _ rfl) | exact .c _ _ (.ptr _ _ _ _ rfl) | exact .c _ _ (.frz _ _ rfl) | exact .any _),(by exact .nil),(by rfl)⟩
 ·have hge:i=l.length:=by simp at h;omega
  rw [hge,List.take_length] at hv
  show ARet _ _ _
  refine ret_bo (x:=true) hv.symm ⟨rfl,rfl⟩
end Go.Abs
namespace Go.Abs
open Go.Proofs Go.Proofs.YtejnngjfjaeiiaaGreatDoor
set_option maxRecDepth 8000
def few19 (g:Hp) (c:Col) (l:List Thread):Bool:=fewH g && (decide (c.work.length≤100) && (decide (l.length≤4) && l.all (·.few)))
def few19k (g:Hp) (c:Col) (l:List Thread) (k:Nat):Bool:=fewH g && (decide (c.work.length≤100) && (decide (l.length≤4) && (l.take k).all (·.few)))
theorem few19_step {g:Hp} {c:Col} {l:List Thread} {k:Nat} (h:k < l.length) (hk:few19k g c l k=true):few19k g c l (k+1)=(l.getD k default).few:=by
 unfold few19k at hk ⊢
 rw [Bool.and_eq_true,Bool.and_eq_true,Bool.and_eq_true] at hk
 obtain ⟨h1,h2,h3,h4⟩:=hk
 rw [h1,h2,h3,List.take_succ,List.all_append,h4,List.getElem?_eq_getElem h,List.getD_eq_getElem?_getD,List.getElem?_eq_getElem h]
 simp
theorem few19_no {g : Hp} {c : Col} {l : List Thread} {k : Nat} (hk : few19k g c l k = false) : few19 g c l = false := by
  cases h : few19 g c l with
  | false => rfl
  | true =>
    unfold few19 at h
    rw [Bool.and_eq_true, Bool.and_eq_true, Bool.and_eq_true] at h
    obtain ⟨h1, h2, h3, h4⟩ := h
    unfold few19k at hk
    rw [h1, h2, h3, List.all_eq_true.2 fun x hx => List.all_eq_true.1 h4 x (List.mem_of_mem_take hx)] at hk
    cases hk
theorem few19_spec (g:Hp) (c:Col) (l:List Thread):Spec X 12 [] [g.tv,c.tv,.c (.d (.sl .thread l))] (Ret [] (.bo (few19 g c l))):=by
 refine spec_go X_ok Tryz.f12 (by kernel_rfl) (by kernel_rfl) (by kernel_rfl) fun hb hH=>⟨rfl,?_⟩
 have hlm:l.length≤maxN:=(hb (.c (.d (.sl .thread l))) (by simp)).1
 show ACall _ _ _ _ _ _
 refine call_ret (Few_spec g) rfl ?_
 have e1:decide ((c.work.length:Int)≤100)=decide (c.work.length≤100):=by rw [decide_eq_decide];omega
 have e2:decide ((l.length:Int)≤4)=decide (l.length≤4):=by rw [decide_eq_decide];omega
 have e0:(bif (bif fewH g then decide ((c.work.length:Int)≤100) else false) then decide ((l.length:Int)≤4) else false)=few19k g c l 0:=by
  unfold few19k
  rw [e1,e2]
  cases fewH g <;> cases decide (c.work.length≤100) <;> cases decide (l.length≤4) <;> rfl
 show ∃ n,_
 refine ⟨0,ALoop.inv (ι:={i:Nat // i≤l.length}) (fun q=>⟨[(2,.c (.d (.sl .thread (l)))),(7,.bo ((few19k g c l q.1))),(8,.int ((q.1:Int)))],[],32⟩) (fun q=>l.length - q.1) ⟨0,Nat.zero_le _⟩ ?_ ?_⟩
 ·exact ⟨[],(by repeat' first | exact .nil | refine .cons _ _ _ ?_ ?_ | exact .bo_eq e0 | exact .same | exact .c _ _ (.own _ _ rfl) | exact .c _ _ (.ptr _ _ _ _ rfl) | exact .c _ _ (.frz _ _ rfl) | exact .any _),(by exact .nil),(by rfl)⟩
 rintro ⟨i,hi⟩
 have hi:i≤l.length:=hi
 show ABr (bif decide ((i:Int) < (l.length:Int)) then few19k g c l i else false) _ _
 refine ⟨fun h=>?_,fun h=>?_⟩
 ·have hlt:i < l.length:=by
   cases hd:decide ((i:Int) < (l.length:Int)) with
   | true=>have:=of_decide_eq_true hd;omega
   | false=>rw [hd] at h;cases h
  have hk:few19k g c l i=true:=by rw [decide_eq_true (show (i:Int) < (l.length:Int) by omega)] at h;exact h
  have wi:IntKind.i64.wrap ((i:Int)+1)=((i+1:Nat):Int):=wrapP (i:=i) (by omega)
  show AOb ((0:Int)≤(i:Int)∧(i:Int) < (l.length:Int)) _
  refine ⟨by omega,?_⟩
  show ACall _ _ _ _ _ _
  refine call_ret (Few12_spec (l.getD i default)) rfl ?_
  show ARound _ _ _ _
  exact ⟨⟨i+1,hlt⟩,(by dsimp only;omega),[],(by repeat' first | exact .nil | refine .cons _ _ _ ?_ ?_ | exact .int_eq wi | exact .bo_eq (few19_step hlt hk).symm | exact .same | exact .c _ _ (.own _ _ rfl) | exact .c _ _ (.ptr _ _ _ _ rfl) | exact .c _ _ (.frz _ _ rfl) | exact .any _),(by exact .nil),(by rfl)⟩
 ·by_cases hlt:i < l.length
  ·have hk:few19k g c l i=false:=by rw [decide_eq_true (show (i:Int) < (l.length:Int) by omega)] at h;exact h
   show ARet _ _ _
   refine ret_bo (x:=few19k g c l i) (hk.trans (few19_no hk).symm) ⟨rfl,rfl⟩
  ·have e:i=l.length:=by omega
   show ARet _ _ _
   refine ret_bo (x:=few19k g c l i) (by unfold few19k few19;rw [e,List.take_length]) ⟨rfl,rfl⟩
theorem few19_of {g:Hp} {c:Col} {l:List Thread} (h:few19 g c l=true):fewH g=true∧g.light∧g.small∧c.work.length≤100∧c.work.length < most:=by
 unfold few19 at h
 rw [Bool.and_eq_true,Bool.and_eq_true,decide_eq_true_eq] at h
 exact ⟨h.1,few_light h.1,few_small h.1,h.2.1,by unfold most;omega⟩
def cyN (g:Hp) (c:Col) (l:List Thread):Nat→Hp × Col
 | 0=>(g,c)
 | n+1=>cycS (cyN g c l n).1 (cyN g c l n).2 l
theorem cyN_step (g:Hp) (c:Col) (l:List Thread) (n:Nat):CStep (cyN g c l n).1 (cyN g c l n).2 l (cyN g c l (n+1)).1 (cyN g c l (n+1)).2:=cyc_step _ _ _
theorem CStep.work {g k:Hp} {c d:Col} {l:List Thread} (s:CStep g c l k d) (h:c.work.length≤100):d.work.length≤100:=by
 cases s
 case scan s=>exact s.keep.work h
 case trace s=>exact s.work100 h
 case sweep s=>rcases s.work with e | e <;> rw [e];exact h;exact Nat.zero_le _
 case next=>unfold nextP;split <;> exact h
 all_goals exact h
theorem cyN_ok (g : Hp) (c : Col) (l : List Thread) (hl : g.light) (hs : g.small) (h : c.work.length ≤ 100) : ∀ n, (cyN g c l n).1.light ∧ (cyN g c l n).1.small ∧ (cyN g c l n).2.work.length ≤ 100
  | 0 => ⟨hl, hs, h⟩
  | n + 1 => by
    obtain ⟨h1, h2, h3⟩ := cyN_ok g c l hl hs h n
    have s := cyN_step g c l n
    exact ⟨s.light h1, s.small h2, s.work h3⟩
theorem cyStep0_spec (g:Hp) (c:Col) (hl:g.light) (hs:g.small) (hw:c.work.length < most):Spec X 14 [] [g.tv,c.tv,nilS] (Ret [] (.tup [(cycS g c []).1.tv,(cycS g c []).2.tv])):=
 (cyStep_spec g c [] hl hs hw).args (.cons _ _ _ _ (.refl _) (.cons _ _ _ _ (.refl _) (.cons _ _ _ _ (.sl .thread [] _ rfl) .nil)))
def c19:Col:=⟨1,1,false,[],false,0,0,0,0,false⟩
theorem v19:newE 1=0∧startE Col.none=0∧startC Col.none false=c19∧(∀ i,i < 8→(cyN (newH 1) c19 [] i).2.phase≠0)∧(cyN (newH 1) c19 [] 8).2.phase=0∧(cyN (newH 1) c19 [] 8).2.epoch=1∧mayC (cyN (newH 1) c19 [] 8).2=true:=by decide +kernel
theorem n19:(newH 1).light∧(newH 1).small:=by
 have h:fewH (newH 1)=true:=by decide +kernel
 exact ⟨few_light h,few_small h⟩
set_option maxHeartbeats 2000000 in
theorem awake19_spec:Spec X 11 [] [] (Ret [] (.bo true)):=by
 refine spec_go X_ok Tryz.f11 (by kernel_rfl) (by kernel_rfl) (by kernel_rfl) fun hb hH=>⟨rfl,?_⟩
 obtain ⟨v1,v2,v3,v4,v5,v6,v7⟩:=v19
 show ACall _ _ _ _ _ _
 refine call_ret (hNew_spec 1) rfl ?_
 show ACall _ _ _ _ _ _
 refine call_ret ((cyStart_spec Col.none false).args (.cons _ _ _ _ (.agg _ _ ?_) (.cons _ _ _ _ (.refl _) .nil))) rfl ?_
 ·repeat (first | exact .nil | refine .cons _ _ _ ?_ | refine .sl _ _ _ _ _ rfl ?_)
 rw [v1,v2,v3]
 show ∃ n,_
 refine ⟨0,ALoop.inv (ι:={i:Nat // i≤8}) (fun q=>⟨[(1,.c (.ptr 0 0 0)),(2,.int (0)),(3,.c (.ptr 1 0 0)),(4,.int (0)),(5,.int ((q.1:Int)))],[(0,.vars ((cyN (newH 1) c19 [] q.1).1.enc.map .d)),(1,.vars ((cyN (newH 1) c19 [] q.1).2.enc.map .d))],96⟩) (fun q=>8 - q.1) ⟨0,by decide⟩ ?_ ?_⟩
 ·exact ⟨[(192,0),(448,1)],(by repeat' first | exact .nil | refine .cons _ _ _ ?_ ?_ | exact .same | exact .c _ _ (.own _ _ rfl) | exact .c _ _ (.ptr _ _ _ _ rfl) | exact .c _ _ (.frz _ _ rfl) | exact .any _),(by exact .old 0 192 _ _ _ rfl rfl (.vars _ _ (LeL_refl rfl)) (.old 1 448 _ _ _ rfl rfl (.vars _ _ (LeL_refl rfl)) .nil)),(by rfl)⟩
 rintro ⟨i,hi⟩
 have hi:i≤8:=hi
 obtain ⟨k1,k2,k3⟩:=cyN_ok (newH 1) c19 [] n19.1 n19.2 (by decide) i
 show ABr (bif ((cyN (newH 1) c19 [] i).2.phase != 0) then decide ((i:Int) < 20) else false) _ _
 by_cases h8:i=8
 ·subst h8
  rw [v5]
  show ABr _ _ _
  refine ⟨fun h=>absurd h (by decide),fun _=>?_⟩
  show AIf ((bif (bif (bif (0:Int) == 0 then (0:Int) == 0 else false) then (cyN (newH 1) c19 [] 8).2.epoch == 1 else false) then ((8:Nat):Int) == 8 else false)=true∧True) _ _
  rw [v6]
  show AIf _ _ _
  refine ⟨fun _=>?_,fun h=>absurd ⟨(by rfl),trivial⟩ h⟩
  show ACall _ _ _ _ _ _
  refine call_ret (cyMay_spec (cyN (newH 1) c19 [] 8).2) rfl ?_
  show ARet _ _ _
  refine ret_bo (x:=mayC (cyN (newH 1) c19 [] 8).2) v7 ⟨rfl,rfl⟩
 ·have hlt:i < 8:=by omega
  have wi:IntKind.i64.wrap ((i:Int)+1)=((i+1:Nat):Int):=wrapP (i:=i) (by unfold maxN;omega)
  rw [show ((cyN (newH 1) c19 [] i).2.phase != 0)=true by simpa using v4 i hlt,decide_eq_true (show (i:Int) < 20 by omega)]
  show ABr _ _ _
  refine ⟨fun _=>?_,fun h=>absurd h (by decide)⟩
  show ACall _ _ _ _ _ _
  refine call_ret (cyStep0_spec (cyN (newH 1) c19 [] i).1 (cyN (newH 1) c19 [] i).2 k1 k2 (by unfold most;omega)) rfl ?_
  show ARound _ _ _ _
  exact ⟨⟨i+1,hlt⟩,(by dsimp only;omega),[(0,0),(1,1)],(by repeat' first | exact .nil | refine .cons _ _ _ ?_ ?_ | exact .int_eq wi | exact .same | exact .c _ _ (.own _ _ rfl) | exact .c _ _ (.ptr _ _ _ _ rfl) | exact .c _ _ (.frz _ _ rfl) | exact .any _),(by exact .old 0 0 _ _ _ rfl rfl (.vars _ _ (LeL_refl rfl)) (.old 1 1 _ _ _ rfl rfl (.vars _ _ (LeL_refl rfl)) .nil)),(by rfl)⟩
theorem CycleIdle_spec (g : Hp) (c : Col) (l : List Thread) (m : Bool) : Spec X 5 [] [g.tv, c.tv, .c (.d (.sl .thread l)), .bo m] (Ret [] (.bo true)) := by
  refine spec_go X_ok Tryz.f5 (by kernel_rfl) (by kernel_rfl) (by kernel_rfl) fun hb hH => ⟨rfl, ?_⟩
  show ACall _ _ _ _ _ _
  refine call_ret (awake19_spec) rfl ?_
  show ACall _ _ _ _ _ _
  refine call_ret (few19_spec g c l) rfl ?_
  cases hf : few19 g c l with
  | false =>
    show ABr _ _ _
    refine ⟨fun _ => ?_, fun h => absurd h (by decide)⟩
    show ARet _ _ _
    exact ret_d rfl ⟨rfl, rfl⟩
  | true =>
    obtain ⟨f1, f2, f3, f4, f5⟩ := few19_of hf
    show ABr _ _ _
    refine ⟨fun h => absurd h (by decide), fun _ => ?_⟩
    show ACall _ _ _ _ _ _
    refine call_ret (cyStep_spec g c l f2 f3 f5) rfl ?_
    show ACall _ _ _ _ _ _
    refine call_ret (cyStart_spec c m) rfl ?_
    show ACall _ _ _ _ _ _
    refine call_ret (cyQuiet_spec c) rfl ?_
    rcases startE_cases c with ⟨h1, e⟩ | ⟨h1, h2, e⟩ | ⟨h1, h2, h3, e⟩ | ⟨h1, h2, h3, e⟩
    · by_cases hq : c.phase = 0
      · rw [decide_eq_true hq]
        show AIf _ _ _
        refine ⟨fun h => absurd h.1 (by decide), fun _ => ?_⟩
        show AOb _ _
        refine ⟨by decide, ?_⟩
        rw [cycS_no (fun k => k.2 hq)]
        show ABr _ _ _
        refine ⟨fun _ => ?_, fun h => absurd h (by decide)⟩
        show ACall _ _ _ _ _ _
        refine call_ret (hSame_spec g g) rfl ?_
        rw [decide_eq_true (show g = g from rfl)]
        show AIf _ _ _
        refine ⟨fun _ => ?_, fun h => absurd ⟨(by rfl), trivial⟩ h⟩
        show ACall _ _ _ _ _ _
        refine call_ret (cSame_spec c c) rfl ?_
        rw [decide_eq_true (show c = c from rfl)]
        show ABr _ _ _
        refine ⟨fun h => absurd h (by decide), fun _ => ?_⟩
        rw [e, startC_no (by omega)]
        show ABr _ _ _
        refine ⟨fun _ => ?_, fun h => absurd h (by decide)⟩
        show ARet _ _ _
        exact ret_d rfl ⟨rfl, rfl⟩
      · rw [decide_eq_false hq]
        show AIf _ _ _
        refine ⟨fun _ => ?_, fun h => absurd ⟨(by rfl), trivial⟩ h⟩
        show ACall _ _ _ _ _ _
        refine call_ret (cyMay_spec c) rfl ?_
        rw [h1]
        rw [cycS_no (fun k => by rw [h1] at k; cases k.1)]
        show ABr _ _ _
        refine ⟨fun _ => ?_, fun h => absurd h (by decide)⟩
        show ACall _ _ _ _ _ _
        refine call_ret (hSame_spec g g) rfl ?_
        rw [decide_eq_true (show g = g from rfl)]
        show AIf _ _ _
        refine ⟨fun _ => ?_, fun h => absurd ⟨(by rfl), trivial⟩ h⟩
        show ACall _ _ _ _ _ _
        refine call_ret (cSame_spec c c) rfl ?_
        rw [decide_eq_true (show c = c from rfl)]
        show ABr _ _ _
        refine ⟨fun h => absurd h (by decide), fun _ => ?_⟩
        rw [e, startC_no (by omega)]
        show ABr _ _ _
        refine ⟨fun _ => ?_, fun h => absurd h (by decide)⟩
        show ARet _ _ _
        exact ret_d rfl ⟨rfl, rfl⟩
    · rw [decide_eq_false h2]
      show AIf _ _ _
      refine ⟨fun _ => ?_, fun h => absurd ⟨(by rfl), trivial⟩ h⟩
      show ACall _ _ _ _ _ _
      refine call_ret (cyMay_spec c) rfl ?_
      rw [h1]
      show ABr _ _ _
      refine ⟨fun h => absurd h (by decide), fun _ => ?_⟩
      rw [e, startC_no (by omega)]
      show ABr _ _ _
      refine ⟨fun _ => ?_, fun h => absurd h (by decide)⟩
      show ARet _ _ _
      exact ret_d rfl ⟨rfl, rfl⟩
    · rw [decide_eq_true h2]
      show AIf _ _ _
      refine ⟨fun h => absurd h.1 (by decide), fun _ => ?_⟩
      show AOb _ _
      refine ⟨by decide, ?_⟩
      rw [cycS_no (fun k => k.2 h2)]
      show ABr _ _ _
      refine ⟨fun _ => ?_, fun h => absurd h (by decide)⟩
      show ACall _ _ _ _ _ _
      refine call_ret (hSame_spec g g) rfl ?_
      rw [decide_eq_true (show g = g from rfl)]
      show AIf _ _ _
      refine ⟨fun _ => ?_, fun h => absurd ⟨(by rfl), trivial⟩ h⟩
      show ACall _ _ _ _ _ _
      refine call_ret (cSame_spec c c) rfl ?_
      rw [decide_eq_true (show c = c from rfl)]
      show ABr _ _ _
      refine ⟨fun h => absurd h (by decide), fun _ => ?_⟩
      rw [e, startC_no (by omega)]
      show ABr _ _ _
      refine ⟨fun _ => ?_, fun h => absurd h (by decide)⟩
      show ARet _ _ _
      exact ret_d rfl ⟨rfl, rfl⟩
    · rw [decide_eq_true h2]
      show AIf _ _ _
      refine ⟨fun h => absurd h.1 (by decide), fun _ => ?_⟩
      show AOb _ _
      refine ⟨by decide, ?_⟩
      rw [cycS_no (fun k => k.2 h2)]
      show ABr _ _ _
      refine ⟨fun _ => ?_, fun h => absurd h (by decide)⟩
      show ACall _ _ _ _ _ _
      refine call_ret (hSame_spec g g) rfl ?_
      rw [decide_eq_true (show g = g from rfl)]
      show AIf _ _ _
      refine ⟨fun _ => ?_, fun h => absurd ⟨(by rfl), trivial⟩ h⟩
      show ACall _ _ _ _ _ _
      refine call_ret (cSame_spec c c) rfl ?_
      rw [decide_eq_true (show c = c from rfl)]
      show ABr _ _ _
      refine ⟨fun h => absurd h (by decide), fun _ => ?_⟩
      rw [e, startC_yes e]
      show ABr _ _ _
      refine ⟨fun h => absurd h (by decide), fun _ => ?_⟩
      show ACall _ _ _ _ _ _
      refine call_ret (cyQuiet_spec c) rfl ?_
      rw [decide_eq_true h2]
      show AIf _ _ _
      refine ⟨fun _ => ?_, fun h => absurd ⟨(by rfl), trivial⟩ h⟩
      show ACall _ _ _ _ _ _
      refine call_ret (cyMay_spec c) rfl ?_
      rw [h1]
      have hc := may_c h1
      show ARet _ _ _
      refine ret_bo (x := bif (bif (bif (bif (bif (bif (bif true then (1 : Int) == 1 else false) then (0 : Int) == 0 else false) then !false else false) then (0 : Int) == 0 else false) then (0 : Int) == 0 else false) then m == m else false) then c.epoch + 1 == IntKind.i64.wrap (c.epoch + 1) else false) ?_ ⟨rfl, rfl⟩
      rw [wrap64 (by omega) (by omega)]
      simp
theorem CycleOrder_spec (g : Hp) (c : Col) (l : List Thread) : Spec X 3 [] [g.tv, c.tv, .c (.d (.sl .thread l))] (Ret [] (.bo true)) := by
  refine spec_go X_ok Tryz.f3 (by kernel_rfl) (by kernel_rfl) (by kernel_rfl) fun hb hH => ⟨rfl, ?_⟩
  show ACall _ _ _ _ _ _
  refine call_ret (awake19_spec) rfl ?_
  show ACall _ _ _ _ _ _
  refine call_ret (few19_spec g c l) rfl ?_
  cases hf : few19 g c l with
  | false =>
    show AIf _ _ _
    refine ⟨fun h => absurd h.1 (by decide), fun _ => ?_⟩
    show AOb _ _
    refine ⟨by decide, ?_⟩
    show ABr _ _ _
    refine ⟨fun _ => ?_, fun h => absurd h (by decide)⟩
    show ARet _ _ _
    exact ret_d rfl ⟨rfl, rfl⟩
  | true =>
    obtain ⟨f1, f2, f3, f4, f5⟩ := few19_of hf
    show AIf _ _ _
    refine ⟨fun _ => ?_, fun h => absurd ⟨(by rfl), trivial⟩ h⟩
    show ACall _ _ _ _ _ _
    refine call_ret (cyMay_spec c) rfl ?_
    cases hm : mayC c with
    | false =>
      show ABr _ _ _
      refine ⟨fun _ => ?_, fun h => absurd h (by decide)⟩
      show ARet _ _ _
      exact ret_d rfl ⟨rfl, rfl⟩
    | true =>
      show ABr _ _ _
      refine ⟨fun h => absurd h (by decide), fun _ => ?_⟩
      show ACall _ _ _ _ _ _
      refine call_ret (cyStep_spec g c l f2 f3 f5) rfl ?_
      have hs := cyc_step g c l
      have hmd := hs.mayc hm
      obtain ⟨c1, c2, c3, c4⟩ := hs.col
      generalize cycS g c l = p at *
      obtain ⟨k, d⟩ := p
      have c1 : d.epoch = c.epoch := c1
      have c2 : d.major = c.major := c2
      have hmd : mayC d = true := hmd
      obtain ⟨m1, m2, _⟩ := may_c hm
      obtain ⟨n1, n2, _⟩ := may_c hmd
      show ACall _ _ _ _ _ _
      refine call_ret (rAll15_spec c l) rfl ?_
      show AIf _ _ _
      refine ⟨fun _ => ?_, fun h => absurd ⟨(by simp [c1, c2]), trivial⟩ h⟩
      show ACall _ _ _ _ _ _
      refine call_ret (cyMay_spec d) rfl ?_
      rw [hmd]
      show ABr _ _ _
      refine ⟨fun h => absurd h (by decide), fun _ => ?_⟩
      show ABr (c.phase == d.phase) _ _
      rcases c3 with ⟨e, h⟩ | ⟨h1, h2, ha, e⟩ | ⟨h1, ha, e⟩ | ⟨h1, h2, e⟩ | ⟨h1, e⟩
      · have e : d.phase = c.phase := e
        rw [show (c.phase == d.phase) = true by simpa using e.symm]
        show ABr _ _ _
        refine ⟨fun _ => ?_, fun h => absurd h (by decide)⟩
        show ARet _ _ _
        refine ret_bo (x := bif (bif decide (c.phase ≥ 4) then true else c.phase == 0) then true else !allB c l) ?_ ⟨rfl, rfl⟩
        rcases h with h | h | h | h
        · rw [h]; rfl
        · rw [h] at hm; cases hm
        · rw [decide_eq_true (show c.phase ≥ 4 from h)]; rfl
        · rw [h]; cases (bif decide (c.phase ≥ 4) then true else c.phase == 0) <;> rfl
      · have e : d.phase = c.phase + 1 := e
        rw [show (c.phase == d.phase) = false by simp; omega]
        show ABr _ _ _
        refine ⟨fun h => absurd h (by decide), fun _ => ?_⟩
        show ABr (bif (bif decide (c.phase ≥ 1) then decide (c.phase ≤ 3) else false) then !allB c l else false) _ _
        rw [show (bif (bif decide (c.phase ≥ 1) then decide (c.phase ≤ 3) else false) then !allB c l else false) = false by (rw [ha]; simp)]
        show ABr _ _ _
        refine ⟨fun h => absurd h (by decide), fun _ => ?_⟩
        show ABr (bif c.phase == 3 then c.major else false) _ _
        rw [show (bif c.phase == 3 then c.major else false) = false by (rw [show (c.phase == 3) = false by simp; omega]; rfl)]
        show ABr _ _ _
        refine ⟨fun h => absurd h (by decide), fun _ => ?_⟩
        show ARet _ _ _
        refine ret_bo (x := bif d.phase == IntKind.i64.wrap (c.phase + 1) then true else (bif c.phase == 6 then d.phase == 0 else false)) ?_ ⟨rfl, rfl⟩
        rw [wrap64 (by omega) (by omega)]
        rw [show (d.phase == c.phase + 1) = true by simpa using e]; rfl
      · have e : d.phase = if c.major = true then 5 else 4 := e
        rw [show (c.phase == d.phase) = false by simp; split at e <;> omega]
        show ABr _ _ _
        refine ⟨fun h => absurd h (by decide), fun _ => ?_⟩
        cases hj : c.major with
        | true =>
          show ABr (bif (bif decide (c.phase ≥ 1) then decide (c.phase ≤ 3) else false) then !allB c l else false) _ _
          rw [show (bif (bif decide (c.phase ≥ 1) then decide (c.phase ≤ 3) else false) then !allB c l else false) = false by rw [ha]; simp]
          show ABr _ _ _
          refine ⟨fun h => absurd h (by decide), fun _ => ?_⟩
          show ABr (bif c.phase == 3 then true else false) _ _
          rw [show (bif c.phase == 3 then true else false) = true by rw [h1]; rfl]
          show ABr _ _ _
          refine ⟨fun _ => ?_, fun h => absurd h (by decide)⟩
          show ARet _ _ _
          refine ret_bo (x := d.phase == 5) ?_ ⟨rfl, rfl⟩
          rw [hj] at e
          simpa using e
        | false =>
          show ABr (bif (bif decide (c.phase ≥ 1) then decide (c.phase ≤ 3) else false) then !allB c l else false) _ _
          rw [show (bif (bif decide (c.phase ≥ 1) then decide (c.phase ≤ 3) else false) then !allB c l else false) = false by rw [ha]; simp]
          show ABr _ _ _
          refine ⟨fun h => absurd h (by decide), fun _ => ?_⟩
          show ABr (bif c.phase == 3 then false else false) _ _
          rw [show (bif c.phase == 3 then false else false) = false by rw [h1]; rfl]
          show ABr _ _ _
          refine ⟨fun h => absurd h (by decide), fun _ => ?_⟩
          show ARet _ _ _
          refine ret_bo (x := bif d.phase == IntKind.i64.wrap (c.phase + 1) then true else (bif c.phase == 6 then d.phase == 0 else false)) ?_ ⟨rfl, rfl⟩
          rw [wrap64 (by omega) (by omega)]
          rw [hj, if_neg (by decide)] at e
          rw [show (d.phase == c.phase + 1) = true by simp; omega]; rfl
      · have e : d.phase = c.phase + 1 := e
        rw [show (c.phase == d.phase) = false by simp; omega]
        show ABr _ _ _
        refine ⟨fun h => absurd h (by decide), fun _ => ?_⟩
        show ABr (bif (bif decide (c.phase ≥ 1) then decide (c.phase ≤ 3) else false) then !allB c l else false) _ _
        rw [show (bif (bif decide (c.phase ≥ 1) then decide (c.phase ≤ 3) else false) then !allB c l else false) = false by (rw [decide_eq_false (show ¬ c.phase ≤ 3 by omega)]; cases decide (c.phase ≥ 1) <;> rfl)]
        show ABr _ _ _
        refine ⟨fun h => absurd h (by decide), fun _ => ?_⟩
        show ABr (bif c.phase == 3 then c.major else false) _ _
        rw [show (bif c.phase == 3 then c.major else false) = false by (rw [show (c.phase == 3) = false by simp; omega]; rfl)]
        show ABr _ _ _
        refine ⟨fun h => absurd h (by decide), fun _ => ?_⟩
        show ARet _ _ _
        refine ret_bo (x := bif d.phase == IntKind.i64.wrap (c.phase + 1) then true else (bif c.phase == 6 then d.phase == 0 else false)) ?_ ⟨rfl, rfl⟩
        rw [wrap64 (by omega) (by omega)]
        rw [show (d.phase == c.phase + 1) = true by simpa using e]; rfl
      · have e : d.phase = 0 := e
        rw [show (c.phase == d.phase) = false by simp; omega]
        show ABr _ _ _
        refine ⟨fun h => absurd h (by decide), fun _ => ?_⟩
        show ABr (bif (bif decide (c.phase ≥ 1) then decide (c.phase ≤ 3) else false) then !allB c l else false) _ _
        rw [show (bif (bif decide (c.phase ≥ 1) then decide (c.phase ≤ 3) else false) then !allB c l else false) = false by (rw [decide_eq_false (show ¬ c.phase ≤ 3 by omega)]; cases decide (c.phase ≥ 1) <;> rfl)]
        show ABr _ _ _
        refine ⟨fun h => absurd h (by decide), fun _ => ?_⟩
        show ABr (bif c.phase == 3 then c.major else false) _ _
        rw [show (bif c.phase == 3 then c.major else false) = false by (rw [show (c.phase == 3) = false by simp; omega]; rfl)]
        show ABr _ _ _
        refine ⟨fun h => absurd h (by decide), fun _ => ?_⟩
        show ARet _ _ _
        refine ret_bo (x := bif d.phase == IntKind.i64.wrap (c.phase + 1) then true else (bif c.phase == 6 then d.phase == 0 else false)) ?_ ⟨rfl, rfl⟩
        rw [wrap64 (by omega) (by omega)]
        rw [h1, e]; rfl
end Go.Abs
namespace Go.Abs
open Go.Proofs Go.Proofs.YtejnngjfjaeiiaaGreatDoor
set_option maxRecDepth 8000
theorem phi_pos {g:Hp} {c:Col} (h:Goes g c) (hc:mayC c=true) (h0:c.phase≠0):1≤phi g c:=by
 obtain ⟨m1,m2,_⟩:=may_c hc
 have:0≤(g.w.length:Int) * (g.w.length:Int):=Int.mul_nonneg (by omega) (by omega)
 unfold phi
 rw [if_neg (by omega)]
 split
 ·unfold base;omega
 ·split
  ·split
   ·omega
   ·have:=phi4_nonneg (g:=g) (c:=c) (by omega);omega
  ·split
   ·rename_i h5
    have:=pot_pos (h.t5 h5)
    omega
   ·unfold potS;omega
structure CyAt (g:Hp) (c:Col) (i:Nat) (k:Hp) (d:Col):Prop where
 mc:mayC d=true
 mh:mayH k []=true
 goes:Goes k d
 ep:d.epoch=c.epoch
 mj:d.major=c.major
 wl:k.w.length=g.w.length
 pot:d.phase=0∨phi k d+(i:Int)≤phi g c
theorem cy_run {g : Hp} {c : Col} {l : List Thread} (ha : ∀ d, allB d l = true) (hc : mayC c = true) (hm : mayH g [] = true) (ht : Goes g c) : ∀ i, CyAt g c i (cyN g c l i).1 (cyN g c l i).2
  | 0 => ⟨hc, hm, ht, rfl, rfl, rfl, .inr (by show phi g c + 0 ≤ _; omega)⟩
  | i + 1 => by
    have h := cy_run ha hc hm ht i
    have s := cyN_step g c l i
    generalize cyN g c l i = p at *
    generalize cyN g c l (i + 1) = q at *
    obtain ⟨k, d⟩ := p
    obtain ⟨k', d'⟩ := q
    have h : CyAt g c i k d := h
    have s : CStep k d l k' d' := s
    show CyAt g c (i + 1) k' d'
    obtain ⟨e1, e2, e3, e4⟩ := s.col
    by_cases h0 : d.phase = 0
    · cases s
      case idle => exact ⟨h.mc, h.mh, h.goes, h.ep, h.mj, h.wl, .inl h0⟩
      all_goals omega
    · obtain ⟨p1, p2⟩ := phi_step s h.mc h.mh h0 (fun _ => ha d) h.goes
      refine ⟨s.mayc h.mc, s.may h.mh, p2, e1.trans h.ep, e2.trans h.mj, s.wlen.trans h.wl, ?_⟩
      rcases p1 with p | p
      · exact .inl p
      · rcases h.pot with q | q
        · exact absurd q h0
        · exact .inr (by omega)
theorem CyAt.ends {g k:Hp} {c d:Col} {i:Nat} (h:CyAt g c i k d) (hi:phi g c≤(i:Int)):d.phase=0:=by
 rcases h.pot with p | p
 ·exact p
 ·apply Classical.byContradiction
  intro h0
  have:=phi_pos h.goes h.mc h0
  omega
theorem steps19 {n:Nat} (h:n≤130):IntKind.i64.wrap (IntKind.i64.wrap (tdv (IntKind.i64.wrap ((n:Int) * (n:Int))) 4+IntKind.i64.wrap (6 * (n:Int)))+100)=(n:Int) * (n:Int) / 4+6 * (n:Int)+100:=by
 have hb:(n:Int) * (n:Int)≤130 * 130:=Int.mul_le_mul (by omega) (by omega) (by omega) (by omega)
 have h0:0≤(n:Int) * (n:Int):=Int.mul_nonneg (by omega) (by omega)
 generalize (n:Int) * (n:Int)=m at *
 have e1:IntKind.i64.wrap m=m:=wrap64 (by omega) (by omega)
 have e2:IntKind.i64.wrap (6 * (n:Int))=6 * (n:Int):=wrap64 (by omega) (by omega)
 rw [e1,e2,tdv_eq h0 (by decide) (by omega),wrap64 (n:=m / 4+6 * (n:Int)) (by omega) (by omega)]
 exact wrap64 (by omega) (by omega)
theorem few190_spec (g:Hp) (c:Col):Spec X 12 [] [g.tv,c.tv,nilS] (Ret [] (.bo (few19 g c []))):=
 (few19_spec g c []).args (.cons _ _ _ _ (.refl _) (.cons _ _ _ _ (.refl _) (.cons _ _ _ _ (.sl .thread [] _ rfl) .nil)))
set_option maxHeartbeats 2000000 in
theorem CycleEnds_spec (g : Hp) (c : Col) (m : Bool) : Spec X 4 [] [g.tv, c.tv, .bo m] (Ret [] (.bo true)) := by
  refine spec_go X_ok Tryz.f4 (by kernel_rfl) (by kernel_rfl) (by kernel_rfl) fun hb hH => ⟨rfl, ?_⟩
  show ACall _ _ _ _ _ _
  refine call_ret (awake19_spec) rfl ?_
  show ACall _ _ _ _ _ _
  refine call_ret (few190_spec g c) rfl ?_
  cases hf : few19 g c [] with
  | false =>
    show AIf _ _ _
    refine ⟨fun h => absurd h.1 (by decide), fun _ => ?_⟩
    show AOb _ _
    refine ⟨by decide, ?_⟩
    show ABr _ _ _
    refine ⟨fun _ => ?_, fun h => absurd h (by exact fun h => Bool.noConfusion h)⟩
    show ARet _ _ _
    exact ret_d rfl ⟨rfl, rfl⟩
  | true =>
    obtain ⟨f1, f2, f3, f4, f5⟩ := few19_of hf
    show AIf _ _ _
    refine ⟨fun _ => ?_, fun h => absurd ⟨(by rfl), trivial⟩ h⟩
    show ACall _ _ _ _ _ _
    refine call_ret (hHMay0_spec g f2) rfl ?_
    cases hm : mayH g [] with
    | false =>
      show ABr _ _ _
      refine ⟨fun _ => ?_, fun h => absurd h (by exact fun h => Bool.noConfusion h)⟩
      show ARet _ _ _
      exact ret_d rfl ⟨rfl, rfl⟩
    | true =>
      show ABr (decide (c.epoch > 1000)) _ _
      refine ⟨fun h => ?_, fun h => ?_⟩
      · show ARet _ _ _
        exact ret_d rfl ⟨rfl, rfl⟩
      have hep : c.epoch ≤ 1000 := by have := of_decide_eq_false h; omega
      show ACall _ _ _ _ _ _
      refine call_ret (cyStart_spec c m) rfl ?_
      rcases startE_cases c with ⟨h1, e⟩ | ⟨h1, h2, e⟩ | ⟨h1, h2, h3, e⟩ | ⟨h1, h2, h3, e⟩
      · rw [e, startC_no (by omega)]
        show ABr _ _ _
        refine ⟨fun _ => ?_, fun h => absurd h (by decide)⟩
        show ARet _ _ _
        exact ret_d rfl ⟨rfl, rfl⟩
      · rw [e, startC_no (by omega)]
        show ABr _ _ _
        refine ⟨fun _ => ?_, fun h => absurd h (by decide)⟩
        show ARet _ _ _
        exact ret_d rfl ⟨rfl, rfl⟩
      · omega
      obtain ⟨_, _, m3, _, m5, m6⟩ := may_c h1
      rw [e, startC_yes e]
      show ABr _ _ _
      refine ⟨fun h => absurd h (by decide), fun _ => ?_⟩
      have hw := (of_decide_eq_true f1 : _).1
      obtain ⟨c1, hc1⟩ : ∃ c1 : Col, c1 = ⟨1, c.epoch + 1, m, [], false, 0, 0, 0, 0, false⟩ := ⟨_, rfl⟩
      have hmc : mayC c1 = true := by rw [hc1]; exact may_mk (by show (0 : Int) ≤ 1; decide) (by show (1 : Int) ≤ 6; decide) (by show 0 ≤ c.epoch + 1; omega) (fun _ => by show 1 ≤ c.epoch + 1; omega) (by show c.epoch + 1 ≤ 1048576; omega) (Nat.zero_le _)
      have hp1 : c1.phase = 1 := by rw [hc1]
      have hgo : Goes g c1 := ⟨fun h => by omega, fun h => by omega⟩
      have hle := phi_le hmc hm (by omega : c1.phase ≤ 3)
      have hrun := cy_run (l := []) (fun d => rfl) hmc hm hgo
      have hok := cyN_ok g c1 [] f2 f3 (by rw [hc1]; exact Nat.zero_le _)
      rw [← hc1]
      show AOb _ _
      refine ⟨by decide, ?_⟩
      have hn := steps19 hw
      have hsq : 0 ≤ (g.w.length : Int) * (g.w.length : Int) := Int.mul_nonneg (by omega) (by omega)
      have hb : (g.w.length : Int) * (g.w.length : Int) ≤ 130 * 130 := Int.mul_le_mul (by omega) (by omega) (by omega) (by omega)
      obtain ⟨n, en⟩ : ∃ n : Nat, (n : Int) = (g.w.length : Int) * (g.w.length : Int) / 4 + 6 * (g.w.length : Int) + 100 := ⟨((g.w.length : Int) * (g.w.length : Int) / 4 + 6 * (g.w.length : Int) + 100).toNat, by omega⟩
      rw [← en] at hn hle
      show ∃ n, _
      refine ⟨0, ALoop.inv (ι := {i : Nat // i ≤ n}) (fun q => ⟨[(2, .bo (m)), (3, .c (.ptr 0 0 0)), (4, .c (.d (.rp (c.enc)))), (9, .c (.ptr 1 0 0)), (11, .int ((n : Int))), (12, .int ((q.1 : Int)))], [(0, .vars ((cyN g c1 [] q.1).1.enc.map .d)), (1, .vars ((cyN g c1 [] q.1).2.enc.map .d))], 96⟩) (fun q => n - q.1) ⟨0, Nat.zero_le _⟩ ?_ ?_⟩
      · exact ⟨[(32, 0), (1024, 1)], (by repeat' first | exact .nil | refine .cons _ _ _ ?_ ?_ | exact .int_eq hn | exact .same | exact .c _ _ (.own _ _ rfl) | exact .c _ _ (.ptr _ _ _ _ rfl) | exact .c _ _ (.frz _ _ rfl) | exact .any _), (by exact .old 0 32 _ _ _ rfl rfl (.vars _ _ (LeL_refl rfl)) (.old 1 1024 _ _ _ rfl rfl (.vars _ _ (LeL_refl rfl)) .nil)), (by rfl)⟩
      rintro ⟨i, hi⟩
      have hi : i ≤ n := hi
      obtain ⟨k1, k2, k3⟩ := hok i
      have hat := hrun i
      by_cases hlt : i < n
      · show AIf (decide ((i : Int) < (n : Int)) = true ∧ True) _ _
        show AIf _ _ _
        refine ⟨fun _ => ?_, fun h => absurd ⟨(by exact decide_eq_true (by omega)), trivial⟩ h⟩
        show ACall _ _ _ _ _ _
        refine call_ret (cyQuiet_spec (cyN g c1 [] i).2) rfl ?_
        by_cases h0 : (cyN g c1 [] i).2.phase = 0
        · rw [decide_eq_true h0]
          show ABr _ _ _
          refine ⟨fun h => absurd h (by decide), fun _ => ?_⟩
          show ACall _ _ _ _ _ _
          refine call_ret (cyStart_spec (cyN g c1 [] i).2 (!m)) rfl ?_
          show ACall _ _ _ _ _ _
          refine call_ret (cyQuiet_spec (cyN g c1 [] i).2) rfl ?_
          rw [decide_eq_true h0]
          have hpe : (cyN g c1 [] i).2.epoch = c.epoch + 1 := by rw [hat.ep, hc1]
          have hse : startE (cyN g c1 [] i).2 = 0 := by
            unfold startE
            rw [if_pos hat.mc, if_pos h0, if_neg (by omega)]
          show AIf ((bif (bif true then startE (cyN g c1 [] i).2 == 0 else false) then (cyN g c1 [] i).2.epoch == IntKind.i64.wrap (c.epoch + 1) else false) = true ∧ True) _ _
          show AIf _ _ _
          refine ⟨fun _ => ?_, fun h => absurd ⟨(by rw [hse, hpe, wrap64 (by omega) (by omega)]; simp), trivial⟩ h⟩
          show ACall _ _ _ _ _ _
          refine call_ret (hHMay0_spec (cyN g c1 [] i).1 k1) rfl ?_
          rw [hat.mh]
          show AIf _ _ _
          refine ⟨fun _ => ?_, fun h => absurd ⟨(by rfl), trivial⟩ h⟩
          show ACall _ _ _ _ _ _
          refine call_ret (hUsed_spec (cyN g c1 [] i).1 k1) rfl ?_
          show ARet _ _ _
          refine ret_bo (x := decide (((usedH (cyN g c1 [] i).1).length : Int) ≥ 0)) (decide_eq_true (by omega)) ⟨rfl, rfl⟩
        · rw [decide_eq_false h0]
          show ABr _ _ _
          refine ⟨fun _ => ?_, fun h => absurd h (by decide)⟩
          have wi : IntKind.i64.wrap ((i : Int) + 1) = ((i + 1 : Nat) : Int) := wrapP (i := i) (by unfold maxN; omega)
          show ACall _ _ _ _ _ _
          refine call_ret (cyStep0_spec (cyN g c1 [] i).1 (cyN g c1 [] i).2 k1 k2 (by unfold most; omega)) rfl ?_
          show ARound _ _ _ _
          exact ⟨⟨i + 1, hlt⟩, (by dsimp only; omega), [(0, 0), (1, 1)], (by repeat' first | exact .nil | refine .cons _ _ _ ?_ ?_ | exact .int_eq wi | exact .same | exact .c _ _ (.own _ _ rfl) | exact .c _ _ (.ptr _ _ _ _ rfl) | exact .c _ _ (.frz _ _ rfl) | exact .any _), (by exact .old 0 0 _ _ _ rfl rfl (.vars _ _ (LeL_refl rfl)) (.old 1 1 _ _ _ rfl rfl (.vars _ _ (LeL_refl rfl)) .nil)), (by rfl)⟩
      · have h0 : (cyN g c1 [] i).2.phase = 0 := hat.ends (by omega)
        show AIf (decide ((i : Int) < (n : Int)) = true ∧ True) _ _
        rw [decide_eq_false (show ¬ (i : Int) < (n : Int) by omega)]
        show AIf _ _ _
        refine ⟨fun h => absurd h.1 (by decide), fun _ => ?_⟩
        show AOb _ _
        refine ⟨by decide, ?_⟩
        show ABr _ _ _
        refine ⟨fun h => absurd h (by decide), fun _ => ?_⟩
        show ACall _ _ _ _ _ _
        refine call_ret (cyStart_spec (cyN g c1 [] i).2 (!m)) rfl ?_
        show ACall _ _ _ _ _ _
        refine call_ret (cyQuiet_spec (cyN g c1 [] i).2) rfl ?_
        rw [decide_eq_true h0]
        have hpe : (cyN g c1 [] i).2.epoch = c.epoch + 1 := by rw [hat.ep, hc1]
        have hse : startE (cyN g c1 [] i).2 = 0 := by
          unfold startE
          rw [if_pos hat.mc, if_pos h0, if_neg (by omega)]
        show AIf ((bif (bif true then startE (cyN g c1 [] i).2 == 0 else false) then (cyN g c1 [] i).2.epoch == IntKind.i64.wrap (c.epoch + 1) else false) = true ∧ True) _ _
        show AIf _ _ _
        refine ⟨fun _ => ?_, fun h => absurd ⟨(by rw [hse, hpe, wrap64 (by omega) (by omega)]; simp), trivial⟩ h⟩
        show ACall _ _ _ _ _ _
        refine call_ret (hHMay0_spec (cyN g c1 [] i).1 k1) rfl ?_
        rw [hat.mh]
        show AIf _ _ _
        refine ⟨fun _ => ?_, fun h => absurd ⟨(by rfl), trivial⟩ h⟩
        show ACall _ _ _ _ _ _
        refine call_ret (hUsed_spec (cyN g c1 [] i).1 k1) rfl ?_
        show ARet _ _ _
        refine ret_bo (x := decide (((usedH (cyN g c1 [] i).1).length : Int) ≥ 0)) (decide_eq_true (by omega)) ⟨rfl, rfl⟩
theorem cyc_whole {g k:Hp} {c d:Col} {l:List Thread} (s:CStep g c l k d) (hc4:c.work.length≤100) {cs:List Lists} (hw:wholeH g cs=true) :
  wholeH k cs=true∧∀ u,headE k u=0→headE g u=0∧∀ f:Int,1≤f→f≤(headH g u).n→wordAt k (u+f)=wordAt g (u+f):=by
 have hsame:wholeH g cs=true∧∀ u,headE g u=0→headE g u=0∧∀ f:Int,1≤f→f≤(headH g u).n→wordAt g (u+f)=wordAt g (u+f):=⟨hw,fun u hu=>⟨hu,fun _ _ _=>rfl⟩⟩
 cases s
 case scan hm hp s=>
  have sk:SK g k c d:=(SK.refl g c hc4).step s.keep
  refine ⟨?_,fun u hu=>⟨by rw [← sk.headE];exact hu,fun f f1 f2=>sk.field (by rw [← sk.headE];exact hu) f1 f2⟩⟩
  cases s
  case clean=>rw [whole_cset];exact hw
  case last v hv=>
   rcases met_cases g c v with ⟨_,e⟩ | ⟨_,e⟩ <;> rw [e]
   ·rw [shadeG_whole];exact hw
   ·exact hw
  case more v hv=>
   rcases met_cases g c v with ⟨_,e⟩ | ⟨_,e⟩ <;> rw [e]
   ·rw [shadeG_whole];exact hw
   ·exact hw
  case done=>
   split
   ·rw [whole_cset];exact hw
   ·exact hw
  all_goals exact hw
 case trace hm hp s=>
  have mk:=s.marks
  refine ⟨?_,fun u hu=>⟨by rw [← mk.headE];exact hu,fun f f1 f2=>mk.field (by rw [← mk.headE];exact hu) f1 f2⟩⟩
  cases s
  case last v hv=>rw [blackG_whole,shadeG_whole];exact hw
  case more v hv=>rw [shadeG_whole];exact hw
  all_goals exact hw
 case sweep hm hp s=>
  obtain ⟨o1,_,_,_,o5⟩:=sweep_one s hw
  have fl:=(Flds.refl g).step s hw
  refine ⟨o1,fun u hu=>⟨o5 u hu,fun f f1 f2=>fl.word u hu f f1 ?_⟩⟩
  have:=(head_fits (o5 u hu)).2.2.1
  omega
 all_goals exact hsame
set_option maxHeartbeats 4000000 in
theorem CycleWhole_spec (g : Hp) (c : Col) (l : List Thread) (cs : List Lists) : Spec X 6 [] [g.tv, c.tv, .c (.d (.sl .thread l)), .c (.d (.sl .lists cs))] (Ret [] (.bo true)) := by
  refine spec_go X_ok Tryz.f6 (by kernel_rfl) (by kernel_rfl) (by kernel_rfl) fun hb hH => ⟨rfl, ?_⟩
  show ACall _ _ _ _ _ _
  refine call_ret (awake19_spec) rfl ?_
  show ACall _ _ _ _ _ _
  refine call_ret (few19_spec g c l) rfl ?_
  show ABr (bif bif !true then true else !few19 g c l then true else decide ((cs.length : Int) > 4)) _ _
  refine ⟨fun h => ?_, fun h => ?_⟩
  · show ARet _ _ _
    exact ret_d rfl ⟨rfl, rfl⟩
  have hc : few19 g c l = true ∧ cs.length ≤ 4 := by
    cases hf : few19 g c l with
    | false => rw [hf] at h; exact absurd h (by simp)
    | true =>
      rw [hf] at h
      by_cases k1 : cs.length ≤ 4
      · exact ⟨rfl, k1⟩
      · rw [decide_eq_true (show (cs.length : Int) > 4 by omega)] at h; exact absurd h (by simp)
  obtain ⟨hf, h4⟩ := hc
  obtain ⟨f1, f2, f3, f4, f5⟩ := few19_of hf
  show ∃ n, _
  refine ⟨0, ALoop.inv (ι := {i : Nat // i ≤ cs.length ∧ ∀ j, j < i → lightL (cs.getD j default)}) (fun q => ⟨[(2, .c (.d (.sl .thread (l)))), (3, .c (.d (.sl .lists (cs)))), (4, .c (.d (.rp (g.enc)))), (5, .c (.d (.rp (c.enc)))), (11, .int (q.1))], [], 32⟩) (fun q => cs.length - q.1) ⟨0, Nat.zero_le _, fun j hj => absurd hj (by omega)⟩ ?_ ?_⟩
  · exact ⟨[], (by repeat' first | exact .nil | refine .cons _ _ _ ?_ ?_ | exact .same | exact .c _ _ (.own _ _ rfl) | exact .c _ _ (.ptr _ _ _ _ rfl) | exact .c _ _ (.frz _ _ rfl) | exact .any _), (by exact .nil), (by rfl)⟩
  rintro ⟨i, hi, hn⟩
  have hi : i ≤ cs.length := hi
  have hn : ∀ j, j < i → lightL (cs.getD j default) := hn
  show ABr (decide ((i : Int) < (cs.length : Int))) _ _
  refine ⟨fun h => ?_, fun h => ?_⟩
  · have hlt : i < cs.length := by simpa using h
    have wi : IntKind.i64.wrap ((i : Int) + 1) = ((i + 1 : Nat) : Int) := wrapP (i := i) (by unfold maxN; omega)
    show AOb ((0 : Int) ≤ (i : Int) ∧ (i : Int) < (cs.length : Int)) _
    refine ⟨by omega, ?_⟩
    show ACall _ _ _ _ _ _
    refine call_ret (Light_spec (cs.getD i default)) rfl ?_
    show ABr (!decide (lightL (cs.getD i default))) _ _
    refine ⟨fun h => ?_, fun h => ?_⟩
    · show ARet _ _ _
      exact ret_d rfl ⟨rfl, rfl⟩
    · have hli : lightL (cs.getD i default) := by simpa using h
      have hnn : ∀ j, j < i + 1 → lightL (cs.getD j default) := fun j hj => by
        by_cases e : j = i
        · subst e; exact hli
        · exact hn j (by omega)
      show ARound _ _ _ _
      exact ⟨⟨i + 1, hlt, hnn⟩, (by dsimp only; omega), [], (by repeat' first | exact .nil | refine .cons _ _ _ ?_ ?_ | exact .int_eq wi | exact .same | exact .c _ _ (.own _ _ rfl) | exact .c _ _ (.ptr _ _ _ _ rfl) | exact .c _ _ (.frz _ _ rfl) | exact .any _), (by exact .nil), (by rfl)⟩
  have hge : i = cs.length := by simp at h; omega
  have hall : ∀ l ∈ cs, lightL l := mem_of_lt (by rw [← hge]; exact hn)
  have hfl := flats_few f1 h4 hall
  have hcm : cs.length < most := by unfold most; omega
  show ACall _ _ _ _ _ _
  refine call_ret (Whole_spec g cs hfl hcm) rfl ?_
  cases hwh : wholeH g cs with
  | false =>
    show ABr _ _ _
    refine ⟨fun _ => ?_, fun h => absurd h (by decide)⟩
    show ARet _ _ _
    exact ret_d rfl ⟨rfl, rfl⟩
  | true =>
    show ABr _ _ _
    refine ⟨fun h => absurd h (by decide), fun _ => ?_⟩
    show ACall _ _ _ _ _ _
    refine call_ret (cyStep_spec g c l f2 f3 f5) rfl ?_
    have hs := cyc_step g c l
    have kl := hs.light f2
    have kwl := hs.wlen
    obtain ⟨kw, kf⟩ := cyc_whole hs f4 hwh
    generalize cycS g c l = p at *
    obtain ⟨k, d⟩ := p
    have kl : k.light := kl
    have kwl : k.w.length = g.w.length := kwl
    have kw : wholeH k cs = true := kw
    have kf : ∀ u, headE k u = 0 → headE g u = 0 ∧ ∀ f : Int, 1 ≤ f → f ≤ (headH g u).n → wordAt k (u + f) = wordAt g (u + f) := kf
    have hul : (usedH k).length ≤ 512 := used_len k
    show ACall _ _ _ _ _ _
    refine call_ret (hUsed_spec k kl) rfl ?_
    show ∃ n, _
    refine ⟨0, ALoop.inv (ι := {j : Nat // j ≤ (usedH k).length}) (fun q => ⟨[(3, .c (.d (.sl .lists (cs)))), (4, .c (.d (.rp (g.enc)))), (12, .c (.d (.rp (k.enc)))), (14, .c (.d (.sl .int ((usedH k))))), (15, .int (q.1))], [], 32⟩) (fun q => (usedH k).length - q.1) ⟨0, Nat.zero_le _⟩ ?_ ?_⟩
    · exact ⟨[], (by repeat' first | exact .nil | refine .cons _ _ _ ?_ ?_ | exact .same | exact .c _ _ (.own _ _ rfl) | exact .c _ _ (.ptr _ _ _ _ rfl) | exact .c _ _ (.frz _ _ rfl) | exact .any _), (by exact .nil), (by rfl)⟩
    rintro ⟨j, hj⟩
    have hj : j ≤ (usedH k).length := hj
    show ABr (decide ((j : Int) < ((usedH k).length : Int))) _ _
    refine ⟨fun h => ?_, fun h => ?_⟩
    · have hjl : j < (usedH k).length := by simpa using h
      have wj : IntKind.i64.wrap ((j : Int) + 1) = ((j + 1 : Nat) : Int) := wrapP (i := j) (by unfold maxN; omega)
      have hob : (0 : Int) ≤ (j : Int) ∧ (j : Int) < ((usedH k).length : Int) := by omega
      have hku : headE k (at0 (usedH k) j) = 0 := mem_usedH.1 (by rw [at0_get hjl]; exact List.getElem_mem hjl)
      obtain ⟨hu, hfd⟩ := kf _ hku
      have hr := head_room hu
      have hfit := head_fits hu
      have hnk : (headH g (at0 (usedH k) j)).n ≤ 63 := (may_range (head_may hu).1).1.2
      have hw130 : g.w.length ≤ 130 := by have := of_decide_eq_true f1; omega
      show AOb ((0 : Int) ≤ (j : Int) ∧ (j : Int) < ((usedH k).length : Int)) _
      refine ⟨hob, ?_⟩
      show ADCall _ _ _ _ _ _
      refine .mk _ _ (hHead_spec g (at0 (usedH k) j) f2) rfl ?_
      show ABr (headE g (at0 (usedH k) j) != 0) _ _
      rw [show (headE g (at0 (usedH k) j) != 0) = false by rw [hu]; rfl]
      show ABr _ _ _
      refine ⟨fun h => absurd h (by decide), fun _ => ?_⟩
      show ∃ n, _
      refine ⟨0, ALoop.inv (ι := {f : Nat // 1 ≤ f ∧ (f : Int) ≤ (headH g (at0 (usedH k) j)).n + 1}) (fun q => ⟨[(3, .c (.d (.sl .lists (cs)))), (4, .c (.d (.rp (g.enc)))), (12, .c (.d (.rp (k.enc)))), (14, .c (.d (.sl .int ((usedH k))))), (15, .int ((j : Int))), (16, .c (.d (.rp ((headH g (at0 (usedH k) j)).enc)))), (18, .int (q.1))], [], 32⟩) (fun q => 65 - q.1) ⟨1, by omega, by omega⟩ ?_ ?_⟩
      · exact ⟨[], (by repeat' first | exact .nil | refine .cons _ _ _ ?_ ?_ | exact .same | exact .c _ _ (.own _ _ rfl) | exact .c _ _ (.ptr _ _ _ _ rfl) | exact .c _ _ (.frz _ _ rfl) | exact .any _), (by exact .nil), (by rfl)⟩
      rintro ⟨f, hf1, hf2⟩
      have hf1 : 1 ≤ f := hf1
      have hf2 : (f : Int) ≤ (headH g (at0 (usedH k) j)).n + 1 := hf2
      show ABr (decide ((f : Int) ≤ (headH g (at0 (usedH k) j)).n)) _ _
      refine ⟨fun h => ?_, fun h => ?_⟩
      · have hfl : (f : Int) ≤ (headH g (at0 (usedH k) j)).n := by have := of_decide_eq_true h; omega
        have wf : IntKind.i64.wrap ((f : Int) + 1) = ((f + 1 : Nat) : Int) := wrapP (i := f) (by unfold maxN; omega)
        have w1 : IntKind.i64.wrap ((at0 (usedH k) j) + (f : Int)) = (at0 (usedH k) j) + (f : Int) := wrap64 (by omega) (by omega)
        have w3 : IntKind.i64.wrap (IntKind.i64.wrap ((at0 (usedH k) j) + (f : Int)) - 16) = (at0 (usedH k) j) + (f : Int) - 16 := by rw [w1]; exact wrap64 (by omega) (by omega)
        have hword : at0 k.w ((at0 (usedH k) j) + (f : Int) - 16).toNat = at0 g.w ((at0 (usedH k) j) + (f : Int) - 16).toNat := hfd (f : Int) (by omega) hfl
        show AOb ((0 : Int) ≤ (j : Int) ∧ (j : Int) < ((usedH k).length : Int)) _
        refine ⟨hob, ?_⟩
        show AOb ((0 : Int) ≤ IntKind.i64.wrap (IntKind.i64.wrap ((at0 (usedH k) j) + (f : Int)) - 16) ∧ IntKind.i64.wrap (IntKind.i64.wrap ((at0 (usedH k) j) + (f : Int)) - 16) < (k.w.length : Int)) _
        refine ⟨by rw [w3]; omega, ?_⟩
        show AOb ((0 : Int) ≤ (j : Int) ∧ (j : Int) < ((usedH k).length : Int)) _
        refine ⟨hob, ?_⟩
        show AOb ((0 : Int) ≤ IntKind.i64.wrap (IntKind.i64.wrap ((at0 (usedH k) j) + (f : Int)) - 16) ∧ IntKind.i64.wrap (IntKind.i64.wrap ((at0 (usedH k) j) + (f : Int)) - 16) < (g.w.length : Int)) _
        refine ⟨by rw [w3]; omega, ?_⟩
        show ABr (at0 k.w (IntKind.i64.wrap (IntKind.i64.wrap ((at0 (usedH k) j) + (f : Int)) - 16)).toNat != at0 g.w (IntKind.i64.wrap (IntKind.i64.wrap ((at0 (usedH k) j) + (f : Int)) - 16)).toNat) _ _
        refine ⟨fun h => absurd h (by rw [w3, hword]; simp), fun _ => ?_⟩
        show ARound _ _ _ _
        exact ⟨⟨f + 1, by omega, by omega⟩, (by dsimp only; omega), [], (by repeat' first | exact .nil | refine .cons _ _ _ ?_ ?_ | exact .int_eq wf | exact .same | exact .c _ _ (.own _ _ rfl) | exact .c _ _ (.ptr _ _ _ _ rfl) | exact .c _ _ (.frz _ _ rfl) | exact .any _), (by exact .nil), (by rfl)⟩
      · show ARound _ _ _ _
        exact ⟨⟨j + 1, hjl⟩, (by dsimp only; omega), [], (by repeat' first | exact .nil | refine .cons _ _ _ ?_ ?_ | exact .int_eq wj | exact .same | exact .c _ _ (.own _ _ rfl) | exact .c _ _ (.ptr _ _ _ _ rfl) | exact .c _ _ (.frz _ _ rfl) | exact .any _), (by exact .nil), (by rfl)⟩
    · show ACall _ _ _ _ _ _
      refine call_ret (Whole_spec k cs (may_flats (whole_may kw)) hcm) rfl ?_
      show ARet _ _ _
      refine ret_bo (x := wholeH k cs) kw ⟨rfl, rfl⟩
end Go.Abs
