/- Walks and plain laws: WCycle, WWorld, WTopA, WWorld2, WMut, WMut2, WMut3. -/
import Derived.Test.YtlankjlnnimdoaaGreatDoorPf
import Derived.Test.YtlankjlnnimdoaaGreatDoorPe
set_option linter.all false
set_option linter.unusedVariables false
set_option linter.unusedSimpArgs false
namespace Go.Abs
open Go.Proofs Go.Proofs.YtlankjlnnimdoaaGreatDoor
set_option maxRecDepth 8000
theorem zf2 (n low high:Int):Spec X 111 [] [.int n,.int low,.int high] (Ret [] (.bo (decide (low≤n∧n≤high)))):=by
 refine zd X_ok Tryz.f111 (by kernel_rfl) (by kernel_rfl) (by kernel_rfl) fun hb hH=>⟨rfl,?_⟩
 show ARet ..
 refine zw (x:=bif decide (n≥low) then decide (n≤high) else false) ?_ ⟨rfl,rfl⟩
 by_cases h1:low≤n
 ·rw [decide_eq_true (show n≥low from h1)]
  by_cases h2:n≤high
  ·rw [decide_eq_true h2,decide_eq_true (show low≤n∧n≤high from ⟨h1,h2⟩)];rfl
  ·rw [decide_eq_false h2,decide_eq_false (show ¬ (low≤n∧n≤high) from fun k=>h2 k.2)];rfl
 ·rw [decide_eq_false (show ¬ n≥low from h1),decide_eq_false (show ¬ (low≤n∧n≤high) from fun k=>h1 k.1)];rfl
theorem zrk (c:Col):zbp c=(decide (0≤c.phase∧c.phase≤6) && (decide ((if c.phase=0 then 0 else 1)≤c.epoch∧c.epoch≤1048576) && decide ((c.work.length:Int)≤4))):=by
 unfold zbp
 rw [← Bool.decide_and,← Bool.decide_and]
 exact decide_eq_decide.2 ⟨fun ⟨a,b,c,d,e⟩=>⟨⟨a,b⟩,⟨c,d⟩,e⟩,fun ⟨⟨a,b⟩,⟨c,d⟩,e⟩=>⟨a,b,c,d,e⟩⟩
theorem zgF (c : Col) : Spec X 72 [] [c.tv] (Ret [] (.bo (zbp c))) := by
  refine zd X_ok Tryz.f72 (by kernel_rfl) (by kernel_rfl) (by kernel_rfl) fun hb hH => ⟨rfl, ?_⟩
  rw [zrk]
  show ABr (c.phase == 0) _ _
  by_cases h0 : c.phase = 0
  · rw [if_pos h0, show (c.phase == 0) = true by simpa using h0]
    show ABr _ _ _
    refine ⟨fun _ => ?_, fun h => absurd h (by decide)⟩
    show ACall _ _ _ _ _ _
    refine za (zf2 c.phase 0 6) rfl ?_
    cases hA : decide (0 ≤ c.phase ∧ c.phase ≤ 6) with
    | false =>
      show AIf _ _ _
      refine ⟨fun h => absurd h.1 (by decide), fun _ => ?_⟩
      show AOb _ _
      refine ⟨by decide, ?_⟩
      show ARet _ _ _
      refine zw (x := bif false then decide ((c.work.length : Int) ≤ 4) else false) rfl ⟨rfl, rfl⟩
    | true =>
      show AIf _ _ _
      refine ⟨fun _ => ?_, fun h => absurd ⟨(by rfl), trivial⟩ h⟩
      show ACall _ _ _ _ _ _
      refine za (zf2 c.epoch 0 1048576) rfl ?_
      show ARet _ _ _
      refine zw (x := bif decide (0 ≤ c.epoch ∧ c.epoch ≤ 1048576) then decide ((c.work.length : Int) ≤ 4) else false) (by cases decide (0 ≤ c.epoch ∧ c.epoch ≤ 1048576) <;> rfl) ⟨rfl, rfl⟩
  · rw [if_neg h0, show (c.phase == 0) = false by simpa using h0]
    show ABr _ _ _
    refine ⟨fun h => absurd h (by decide), fun _ => ?_⟩
    show ACall _ _ _ _ _ _
    refine za (zf2 c.phase 0 6) rfl ?_
    cases hA : decide (0 ≤ c.phase ∧ c.phase ≤ 6) with
    | false =>
      show AIf _ _ _
      refine ⟨fun h => absurd h.1 (by decide), fun _ => ?_⟩
      show AOb _ _
      refine ⟨by decide, ?_⟩
      show ARet _ _ _
      refine zw (x := bif false then decide ((c.work.length : Int) ≤ 4) else false) rfl ⟨rfl, rfl⟩
    | true =>
      show AIf _ _ _
      refine ⟨fun _ => ?_, fun h => absurd ⟨(by rfl), trivial⟩ h⟩
      show ACall _ _ _ _ _ _
      refine za (zf2 c.epoch 1 1048576) rfl ?_
      show ARet _ _ _
      refine zw (x := bif decide (1 ≤ c.epoch ∧ c.epoch ≤ 1048576) then decide ((c.work.length : Int) ≤ 4) else false) (by cases decide (1 ≤ c.epoch ∧ c.epoch ≤ 1048576) <;> rfl) ⟨rfl, rfl⟩
theorem zeB (c:Col):Spec X 219 [] [c.tv] (Ret [] (.bo (decide (c.phase=0)))):=by
 refine zd X_ok Tryz.f219 (by kernel_rfl) (by kernel_rfl) (by kernel_rfl) fun hb hH=>⟨rfl,?_⟩
 show ARet ..
 refine zw (x:=c.phase == 0) rfl ⟨rfl,rfl⟩
theorem zh9 {c:Col} {m:Bool} (h:zaz c≠0):zbJ c m=Col.none:=by unfold zbJ;rw [if_neg h]
theorem zri {c:Col} {m:Bool} (h:zaz c=0):zbJ c m=⟨1,c.epoch+1,m,[],false,0,0,0,0,false⟩:=by unfold zbJ;rw [if_pos h]
theorem zmF (c : Col) : (zbp c = false ∧ zaz c = 1) ∨ (zbp c = true ∧ c.phase ≠ 0 ∧ zaz c = 4) ∨ (zbp c = true ∧ c.phase = 0 ∧ c.epoch = 1048576 ∧ zaz c = 2) ∨ (zbp c = true ∧ c.phase = 0 ∧ c.epoch ≠ 1048576 ∧ zaz c = 0) := by
  unfold zaz
  cases h : zbp c with
  | false => exact .inl ⟨rfl, if_neg (by decide)⟩
  | true =>
    rw [if_pos rfl]
    by_cases h0 : c.phase = 0
    · rw [if_pos h0]
      by_cases h1 : c.epoch = 1048576
      · exact .inr (.inr (.inl ⟨rfl, h0, h1, if_pos h1⟩))
      · exact .inr (.inr (.inr ⟨rfl, h0, h1, if_neg h1⟩))
    · rw [if_neg h0]
      exact .inr (.inl ⟨rfl, h0, rfl⟩)
theorem zmL (c:Col) (m:Bool):Spec X 165 [] [c.tv,.bo m] (Ret [] (.tup [(zbJ c m).tv,.int (zaz c)])):=by
 refine zd X_ok Tryz.f165 (by kernel_rfl) (by kernel_rfl) (by kernel_rfl) fun hb hH=>⟨rfl,?_⟩
 show ACall ..
 refine za (zgF c) rfl ?_
 rcases zmF c with ⟨h1,e⟩ | ⟨h1,h2,e⟩ | ⟨h1,h2,h3,e⟩ | ⟨h1,h2,h3,e⟩
 ·rw [zh9 (by omega),e,h1]
  show ABr ..
  refine ⟨fun _=>?_,fun h=>absurd h (by decide)⟩
  show ARet ..
  exact ⟨[],[],[Col.none.tv,.int 1],.cons _ _ _ _ (.agg _ _ (.cons _ _ _ _ (.d _) (.cons _ _ _ _ (.d _) (.cons _ _ _ _ (.d _) (.cons _ _ _ _ (.nilsl .int) (zb rfl)))))) (.cons _ _ _ _ .same .nil),.nil,rfl,rfl,rfl⟩
 ·rw [zh9 (by omega),e,h1]
  show ABr ..
  refine ⟨fun h=>absurd h (by decide),fun _=>?_⟩
  show ACall ..
  refine za (zeB c) rfl ?_
  rw [decide_eq_false h2]
  show ABr ..
  refine ⟨fun _=>?_,fun h=>absurd h (by decide)⟩
  show ARet ..
  exact ⟨[],[],[Col.none.tv,.int 4],.cons _ _ _ _ (.agg _ _ (.cons _ _ _ _ (.d _) (.cons _ _ _ _ (.d _) (.cons _ _ _ _ (.d _) (.cons _ _ _ _ (.nilsl .int) (zb rfl)))))) (.cons _ _ _ _ .same .nil),.nil,rfl,rfl,rfl⟩
 ·rw [zh9 (by omega),e,h1]
  show ABr ..
  refine ⟨fun h=>absurd h (by decide),fun _=>?_⟩
  show ACall ..
  refine za (zeB c) rfl ?_
  rw [decide_eq_true h2]
  show ABr ..
  refine ⟨fun h=>absurd h (by decide),fun _=>?_⟩
  show ABr (c.epoch == 1048576) _ _
  rw [show (c.epoch == 1048576)=true by simpa using h3]
  show ABr ..
  refine ⟨fun _=>?_,fun h=>absurd h (by decide)⟩
  show ARet ..
  exact ⟨[],[],[Col.none.tv,.int 2],.cons _ _ _ _ (.agg _ _ (.cons _ _ _ _ (.d _) (.cons _ _ _ _ (.d _) (.cons _ _ _ _ (.d _) (.cons _ _ _ _ (.nilsl .int) (zb rfl)))))) (.cons _ _ _ _ .same .nil),.nil,rfl,rfl,rfl⟩
 ·have hc:=ziZ h1
  rw [zri e,e,h1]
  show ABr ..
  refine ⟨fun h=>absurd h (by decide),fun _=>?_⟩
  show ACall ..
  refine za (zeB c) rfl ?_
  rw [decide_eq_true h2]
  show ABr ..
  refine ⟨fun h=>absurd h (by decide),fun _=>?_⟩
  show ABr (c.epoch == 1048576) _ _
  rw [show (c.epoch == 1048576)=false by simpa using h3]
  show ABr ..
  refine ⟨fun h=>absurd h (by decide),fun _=>?_⟩
  show ARet ..
  exact ⟨[],[],[(⟨1,c.epoch+1,m,[],false,0,0,0,0,false⟩:Col).tv,.int 0],.cons _ _ _ _ (.agg _ _ (.cons _ _ _ _ (.d _) (.cons _ _ _ _ (.int_eq (zB (by omega) (by omega))) (.cons _ _ _ _ (.d _) (.cons _ _ _ _ (.nilsl .int) (zb rfl)))))) (.cons _ _ _ _ .same .nil),.nil,rfl,rfl,rfl⟩
theorem zgv (g:Hp) (c:Col) (hs:g.small) (hw:c.work.length≤most):Spec X 159 [] [g.tv,c.tv] (Ret [] (.tup [g.tv,c.tv])):=by
 refine zd X_ok Tryz.f159 (by kernel_rfl) (by kernel_rfl) (by kernel_rfl) fun hb hH=>⟨rfl,?_⟩
 obtain ⟨h1,h2,h3,h4,h5,h6⟩:=hs
 show ADCall ..
 refine .mk _ _ (ze g.w h1) rfl ?_
 show ADCall ..
 refine .mk _ _ (zW g.pages h2) rfl ?_
 show ADCall ..
 refine .mk _ _ (zaf g.cards h3) rfl ?_
 show ∃ n,_
 refine ⟨4,?_⟩
 show ALoop ..
 refine .next ?_
 show ABr ..
 refine ⟨fun _=>?_,fun h=>absurd h (by decide)⟩
 show AOb ..
 refine ⟨by decide,?_⟩
 show ACall ..
 refine za (ze g.free.l0 h4) rfl ?_
 show AOb ..
 refine ⟨by decide,?_⟩
 show ALoop ..
 refine .next ?_
 show ABr ..
 refine ⟨fun _=>?_,fun h=>absurd h (by decide)⟩
 show AOb ..
 refine ⟨by decide,?_⟩
 show ACall ..
 refine za (ze g.free.l1 h5) rfl ?_
 show AOb ..
 refine ⟨by decide,?_⟩
 show ALoop ..
 refine .next ?_
 show ABr ..
 refine ⟨fun _=>?_,fun h=>absurd h (by decide)⟩
 show AOb ..
 refine ⟨by decide,?_⟩
 show ACall ..
 refine za (ze g.free.l2 h6) rfl ?_
 show AOb ..
 refine ⟨by decide,?_⟩
 show ALoop ..
 refine .next ?_
 show ABr ..
 refine ⟨fun h=>absurd h (by decide),fun _=>?_⟩
 show ACall ..
 refine za (ze c.work hw) rfl ?_
 show ARet ..
 exact zi rfl ⟨rfl,rfl⟩
theorem zoJ (c : Col) (h : 1 ≤ c.phase) (h3 : c.phase ≤ 3) : Spec X 161 [] [c.tv] (Ret [] (zol c).tv) := by
  refine zd X_ok Tryz.f161 (by kernel_rfl) (by kernel_rfl) (by kernel_rfl) fun hb hH => ⟨rfl, ?_⟩
  have w : IntKind.i64.wrap (c.phase + 1) = c.phase + 1 := zB (by omega) (by omega)
  unfold zol
  show ABr (IntKind.i64.wrap (c.phase + 1) == 4) _ _
  by_cases hp : c.phase = 3
  · rw [if_pos hp, show (IntKind.i64.wrap (c.phase + 1) == 4) = true by rw [w, hp]; rfl]
    show ABr _ _ _
    refine ⟨fun _ => ?_, fun h => absurd h (by decide)⟩
    show ABr c.major _ _
    cases hm : c.major with
    | true =>
      show ABr _ _ _
      refine ⟨fun _ => ?_, fun h => absurd h (by decide)⟩
      show ARet _ _ _
      exact zi rfl ⟨rfl, rfl⟩
    | false =>
      show ABr _ _ _
      refine ⟨fun h => absurd h (by decide), fun _ => ?_⟩
      show ARet _ _ _
      refine zfu (.agg _ _ (.cons _ _ _ _ (.int_eq (y := 4) (by rw [w, hp]; rfl)) (zb rfl))) ⟨rfl, rfl⟩
  · rw [if_neg hp, show (IntKind.i64.wrap (c.phase + 1) == 4) = false by rw [w]; simp; omega]
    show ABr _ _ _
    refine ⟨fun h => absurd h (by decide), fun _ => ?_⟩
    show ARet _ _ _
    refine zfu (.agg _ _ (.cons _ _ _ _ (.int_eq (y := c.phase + 1) w) (zb rfl))) ⟨rfl, rfl⟩
theorem zfc (g : Hp) (c : Col) (l : List Thread) (hs : g.small) (hw : c.work.length ≤ most) (h : 1 ≤ c.phase) (h3 : c.phase ≤ 3) : Spec X 158 [] [g.tv, c.tv, .c (.d (.rp [.sl .thread l]))] (Ret [] (.tup [g.tv, (zlC c l).tv])) := by
  refine zd X_ok Tryz.f158 (by kernel_rfl) (by kernel_rfl) (by kernel_rfl) fun hb hH => ⟨rfl, ?_⟩
  show ACall _ _ _ _ _ _
  refine za (zgv g c hs hw) rfl ?_
  show ACall _ _ _ _ _ _
  refine za (zsW c l) rfl ?_
  unfold zlC
  cases ha : zjc c l with
  | true =>
    rw [if_pos rfl]
    show ABr _ _ _
    refine ⟨fun _ => ?_, fun h => absurd h (by decide)⟩
    show ACall _ _ _ _ _ _
    refine za (zoJ c h h3) rfl ?_
    show ARet _ _ _
    exact zi rfl ⟨rfl, rfl⟩
  | false =>
    rw [if_neg (by decide)]
    show ABr _ _ _
    refine ⟨fun h => absurd h (by decide), fun _ => ?_⟩
    show ARet _ _ _
    exact zi rfl ⟨rfl, rfl⟩
theorem zrF {g:Hp} {c:Col} {l:List Thread} (h:¬ (zbp c=true∧c.phase≠0)):zcr g c l=(g,c):=by unfold zcr;rw [if_neg h]
theorem zij {g:Hp} {c:Col} {l:List Thread} (hm:zbp c=true) (h:1≤c.phase) (h3:c.phase≤3):zcr g c l=(g,zlC c l):=by unfold zcr;rw [if_pos ⟨hm,by omega⟩,if_neg (by omega),if_neg (by omega),if_neg (by omega)]
theorem zwq {g:Hp} {c:Col} {l:List Thread} (hm:zbp c=true) (h:c.phase=4):zcr g c l=ziK g c:=by unfold zcr;rw [if_pos ⟨hm,by omega⟩,if_pos h]
theorem zwk {g:Hp} {c:Col} {l:List Thread} (hm:zbp c=true) (h:c.phase=5):zcr g c l=zfw g c:=by unfold zcr;rw [if_pos ⟨hm,by omega⟩,if_neg (by omega),if_pos h]
theorem zwr {g:Hp} {c:Col} {l:List Thread} (hm:zbp c=true) (h:c.phase=6):zcr g c l=zfE g c:=by unfold zcr;rw [if_pos ⟨hm,by omega⟩,if_neg (by omega),if_neg (by omega),if_pos h]
set_option maxHeartbeats 4000000 in
theorem zok (g : Hp) (c : Col) (l : List Thread) (hl : g.light) (hs : g.small) (hw : c.work.length < most) : Spec X 117 [] [g.tv, c.tv, .c (.d (.sl .thread l))] (Ret [] (.tup [(zcr g c l).1.tv, (zcr g c l).2.tv])) := by
  obtain ⟨ph, ep, mj, wk, ov, ca, cf, ck, cc, cm⟩ := c
  refine Spec.fb (zd zwR Tryz.f117 (by kernel_rfl) (by kernel_rfl) (by kernel_rfl) fun hb hH => ⟨rfl, ?_⟩)
  show ACall _ _ _ _ _ _
  refine za ((zgF ⟨ph, ep, mj, wk, ov, ca, cf, ck, cc, cm⟩).ub) rfl ?_
  cases hm : zbp ⟨ph, ep, mj, wk, ov, ca, cf, ck, cc, cm⟩ with
  | false =>
    rw [zrF (fun k => by rw [hm] at k; cases k.1)]
    show ABr _ _ _
    refine ⟨fun _ => ?_, fun h => absurd h (by decide)⟩
    show ACall _ _ _ _ _ _
    refine za ((zgv g ⟨ph, ep, mj, wk, ov, ca, cf, ck, cc, cm⟩ hs (by omega)).ub) rfl ?_
    show ARet _ _ _
    exact zi rfl ⟨rfl, rfl⟩
  | true =>
    show ABr _ _ _
    refine ⟨fun h => absurd h (by decide), fun _ => ?_⟩
    obtain ⟨m1, m2, _⟩ := ziZ hm
    have hc : ph = 0 ∨ ph = 1 ∨ ph = 2 ∨ ph = 3 ∨ ph = 4 ∨ ph = 5 ∨ ph = 6 := by
      have m1 : 0 ≤ ph := m1
      have m2 : ph ≤ 6 := m2
      omega
    rcases hc with e | e | e | e | e | e | e
    · subst e
      rw [zrF (fun k => k.2 rfl)]
      show AOb ((0 : Int) ≤ 0 ∧ (0 : Int) < 7) _
      refine ⟨by decide, ?_⟩
      show ADCall _ _ _ _ _ _
      refine .mk _ _ ((zgv g _ hs (by omega)).ub) rfl ?_
      show ARet _ _ _
      exact zi rfl ⟨rfl, rfl⟩
    · subst e
      rw [zij hm (by show (1 : Int) ≤ 1; decide) (by show (1 : Int) ≤ 3; decide)]
      show AOb ((0 : Int) ≤ 1 ∧ (1 : Int) < 7) _
      refine ⟨by decide, ?_⟩
      show ADCall _ _ _ _ _ _
      refine .mk _ _ ((zfc g _ l hs (by omega) (by show (1 : Int) ≤ 1; decide) (by show (1 : Int) ≤ 3; decide)).ub) rfl ?_
      show ARet _ _ _
      exact zi rfl ⟨rfl, rfl⟩
    · subst e
      rw [zij hm (by show (1 : Int) ≤ 2; decide) (by show (2 : Int) ≤ 3; decide)]
      show AOb ((0 : Int) ≤ 2 ∧ (2 : Int) < 7) _
      refine ⟨by decide, ?_⟩
      show ADCall _ _ _ _ _ _
      refine .mk _ _ ((zfc g _ l hs (by omega) (by show (1 : Int) ≤ 2; decide) (by show (2 : Int) ≤ 3; decide)).ub) rfl ?_
      show ARet _ _ _
      exact zi rfl ⟨rfl, rfl⟩
    · subst e
      rw [zij hm (by show (1 : Int) ≤ 3; decide) (by show (3 : Int) ≤ 3; decide)]
      show AOb ((0 : Int) ≤ 3 ∧ (3 : Int) < 7) _
      refine ⟨by decide, ?_⟩
      show ADCall _ _ _ _ _ _
      refine .mk _ _ ((zfc g _ l hs (by omega) (by show (1 : Int) ≤ 3; decide) (by show (3 : Int) ≤ 3; decide)).ub) rfl ?_
      show ARet _ _ _
      exact zi rfl ⟨rfl, rfl⟩
    · subst e
      rw [zwq hm rfl]
      show AOb ((0 : Int) ≤ 4 ∧ (4 : Int) < 7) _
      refine ⟨by decide, ?_⟩
      show ADCall _ _ _ _ _ _
      refine .mk _ _ ((zry g _ hl hs hw).ub) rfl ?_
      show ARet _ _ _
      exact zi rfl ⟨rfl, rfl⟩
    · subst e
      rw [zwk hm rfl]
      show AOb ((0 : Int) ≤ 5 ∧ (5 : Int) < 7) _
      refine ⟨by decide, ?_⟩
      show ADCall _ _ _ _ _ _
      refine .mk _ _ ((zqp g _ hl hs hw).ub) rfl ?_
      show ARet _ _ _
      exact zi rfl ⟨rfl, rfl⟩
    · subst e
      rw [zwr hm rfl]
      show AOb ((0 : Int) ≤ 6 ∧ (6 : Int) < 7) _
      refine ⟨by decide, ?_⟩
      show ADCall _ _ _ _ _ _
      refine .mk _ _ ((zpG g _ hl hs (by omega)).ub) rfl ?_
      show ARet _ _ _
      exact zi rfl ⟨rfl, rfl⟩
end Go.Abs
namespace Go.Abs
open Go.Proofs Go.Proofs.YtlankjlnnimdoaaGreatDoor
set_option maxRecDepth 60000
set_option maxHeartbeats 4000000
theorem zkF {α β:Type} [Inhabited α] (f:α→β) {l:List α} {i:Nat} (h:i < l.length):(l.take (i+1)).map f=(l.take i).map f ++ [f (l.getD i default)]:=by
 rw [List.take_add_one,List.getElem?_eq_getElem h,List.getD_eq_getElem?_getD,List.getElem?_eq_getElem h,List.map_append]
 rfl
theorem zcf {α:Type} [Inhabited α] {l:List α} {i:Nat} (h:i < l.length):l.getD i default∈l:=by
 rw [List.getD_eq_getElem?_getD,List.getElem?_eq_getElem h]
 exact List.getElem_mem h
theorem zmH (w:Wd) (hl:w.t.length≤4) (hc:∀ t∈w.t,t.ok):Spec X 68 [] [w.tv] (Ret [(0,.data .lists (zU w))] (.c (.own 0))):=by
 refine zd X_ok Tryz.f68 (by kernel_rfl) (by kernel_rfl) (by kernel_rfl) fun hb hH=>⟨rfl,?_⟩
 show ∃ n,_
 refine ⟨0,ALoop.inv (ι:={i:Nat // i≤w.t.length}) (fun q=>⟨[(3,.c (.own 1)),(10,.c (.d (.sl .thread (w.t)))),(11,.int ((w.t.length:Int))),(12,.int (q.1))],[(1,.data .lists ((w.t.take q.1).map (·.cache)))],64⟩) (fun q=>w.t.length - q.1) ⟨0,Nat.zero_le _⟩ ?_ ?_⟩
 ·exact ⟨[],(by repeat' first | exact .nil | refine .cons _ _ _ ?_ ?_ | exact .c _ _ (.nilown 1 .lists rfl rfl) | exact .same | exact .c _ _ (.own _ _ rfl) | exact .c _ _ (.ptr _ _ _ _ rfl) | exact .c _ _ (.frz _ _ rfl) | exact .any _),(by exact .new 1 .lists _ rfl .nil),(by rfl)⟩
 rintro ⟨i,hi⟩
 show ABr (decide ((i:Int) < (w.t.length:Int))) _ _
 refine ⟨fun h=>?_,fun h=>?_⟩
 ·have hlt:i < w.t.length:=by simpa using h
  have wi:IntKind.i64.wrap ((i:Int)+1)=((i+1:Nat):Int):=zad (i:=i) (by unfold zD;omega)
  show AOb ((0:Int)≤(i:Int)∧(i:Int) < (w.t.length:Int)) _
  refine ⟨by omega,?_⟩
  obtain ⟨_,t2,t3,t4⟩:=hc _ (zcf hlt)
  show ∃ n,_
  refine ⟨4,?_⟩
  show ALoop ..
  refine .next ?_
  show ABr ..
  refine ⟨fun _=>?_,fun h=>absurd h (by decide)⟩
  show AOb ..
  refine ⟨by decide,?_⟩
  show ACall ..
  refine za (ze (w.t.getD i default).cache.l0 t2) rfl ?_
  show AOb ..
  refine ⟨by decide,?_⟩
  show ALoop ..
  refine .next ?_
  show ABr ..
  refine ⟨fun _=>?_,fun h=>absurd h (by decide)⟩
  show AOb ..
  refine ⟨by decide,?_⟩
  show ACall ..
  refine za (ze (w.t.getD i default).cache.l1 t3) rfl ?_
  show AOb ..
  refine ⟨by decide,?_⟩
  show ALoop ..
  refine .next ?_
  show ABr ..
  refine ⟨fun _=>?_,fun h=>absurd h (by decide)⟩
  show AOb ..
  refine ⟨by decide,?_⟩
  show ACall ..
  refine za (ze (w.t.getD i default).cache.l2 t4) rfl ?_
  show AOb ..
  refine ⟨by decide,?_⟩
  show ALoop ..
  refine .next ?_
  show ABr ..
  refine ⟨fun h=>absurd h (by decide),fun _=>?_⟩
  show AOb (((w.t.take i).map (·.cache)).length+1≤most) _
  refine ⟨by rw [List.length_map,List.length_take];unfold most;omega,?_⟩
  show ARound ..
  exact ⟨⟨i+1,hlt⟩,(by dsimp only;omega),[(_,1)],(by repeat' first | exact .nil | refine .cons _ _ _ ?_ ?_ | exact .c _ _ (.own1 _ _) | exact .int_eq wi | exact .same | exact .c _ _ (.own _ _ rfl) | exact .c _ _ (.ptr _ _ _ _ rfl) | exact .c _ _ (.frz _ _ rfl) | exact .any _),(by exact .old 1 _ _ _ _ rfl rfl (.data_eq (zkF (·.cache) hlt).symm) .nil),(by rfl)⟩
 ·have hfin:(w.t.take i).map (·.cache)=zU w:=by
   rw [show i=w.t.length by simp at h;omega,List.take_length];rfl
  show ARet ..
  exact ⟨[(1,0)],[(0,.data .lists (zU w))],[.c (.own 0)],.cons _ _ _ _ (.c _ _ (.own1 _ _)) .nil,.old 0 1 _ _ _ rfl rfl (.data_eq hfin) .nil,rfl,rfl,rfl⟩
theorem zlc (w:Wd) (hl:w.t.length≤4) (hc:∀ t∈w.t,t.ok):Spec X 68 [(16,.data .thread w.t),(17,.data .res w.log)] [.agg (wdO w 16 17)] (fun H r=>H=[(0,.data .lists (zU w)),(16,.data .thread w.t),(17,.data .res w.log)]∧r = .c (.own 0)):=by
 refine zd X_ok Tryz.f68 (by kernel_rfl) (by kernel_rfl) (by kernel_rfl) fun hb hH=>⟨rfl,?_⟩
 show ∃ n,_
 refine ⟨0,ALoop.inv (ι:={i:Nat // i≤w.t.length}) (fun q=>⟨[(3,.c (.own 1)),(10,.c (.own 16)),(11,.int ((w.t.length:Int))),(12,.int (q.1))],[(1,.data .lists ((w.t.take q.1).map (·.cache))),(16,.data .thread w.t),(17,.data .res w.log)],64⟩) (fun q=>w.t.length - q.1) ⟨0,Nat.zero_le _⟩ ?_ ?_⟩
 ·exact ⟨[(16,16),(17,17)],(by repeat' first | exact .nil | refine .cons _ _ _ ?_ ?_ | exact .c _ _ (.nilown 1 .lists rfl rfl) | exact .same | exact .c _ _ (.own _ _ rfl) | exact .c _ _ (.ptr _ _ _ _ rfl) | exact .c _ _ (.frz _ _ rfl) | exact .any _),(by exact .new 1 .lists _ rfl (.old 16 16 _ _ _ rfl rfl (.data_eq rfl) (.old 17 17 _ _ _ rfl rfl (.data_eq rfl) .nil))),(by rfl)⟩
 rintro ⟨i,hi⟩
 show ABr (decide ((i:Int) < (w.t.length:Int))) _ _
 refine ⟨fun h=>?_,fun h=>?_⟩
 ·have hlt:i < w.t.length:=by simpa using h
  have wi:IntKind.i64.wrap ((i:Int)+1)=((i+1:Nat):Int):=zad (i:=i) (by unfold zD;omega)
  show AOb ((0:Int)≤(i:Int)∧(i:Int) < (w.t.length:Int)) _
  refine ⟨by omega,?_⟩
  obtain ⟨_,t2,t3,t4⟩:=hc _ (zcf hlt)
  show AOb ..
  refine ⟨by exact hlt,?_⟩
  show ∃ n,_
  refine ⟨4,?_⟩
  show ALoop ..
  refine .next ?_
  show ABr ..
  refine ⟨fun _=>?_,fun h=>absurd h (by decide)⟩
  show AOb ..
  refine ⟨by decide,?_⟩
  show ACall ..
  refine za (ze (w.t.getD i default).cache.l0 t2) rfl ?_
  show AOb ..
  refine ⟨by decide,?_⟩
  show ALoop ..
  refine .next ?_
  show ABr ..
  refine ⟨fun _=>?_,fun h=>absurd h (by decide)⟩
  show AOb ..
  refine ⟨by decide,?_⟩
  show ACall ..
  refine za (ze (w.t.getD i default).cache.l1 t3) rfl ?_
  show AOb ..
  refine ⟨by decide,?_⟩
  show ALoop ..
  refine .next ?_
  show ABr ..
  refine ⟨fun _=>?_,fun h=>absurd h (by decide)⟩
  show AOb ..
  refine ⟨by decide,?_⟩
  show ACall ..
  refine za (ze (w.t.getD i default).cache.l2 t4) rfl ?_
  show AOb ..
  refine ⟨by decide,?_⟩
  show ALoop ..
  refine .next ?_
  show ABr ..
  refine ⟨fun h=>absurd h (by decide),fun _=>?_⟩
  show AOb (((w.t.take i).map (·.cache)).length+1≤most) _
  refine ⟨by rw [List.length_map,List.length_take];unfold most;omega,?_⟩
  show ARound ..
  exact ⟨⟨i+1,hlt⟩,(by dsimp only;omega),[(_,1),(16,16),(17,17)],(by repeat' first | exact .nil | refine .cons _ _ _ ?_ ?_ | exact .c _ _ (.own1 _ _) | exact .c _ _ (.own _ _ rfl) | exact .int_eq wi | exact .same | exact .c _ _ (.own _ _ rfl) | exact .c _ _ (.ptr _ _ _ _ rfl) | exact .c _ _ (.frz _ _ rfl) | exact .any _),(by exact .old 1 _ _ _ _ rfl rfl (.data_eq (zkF (·.cache) hlt).symm) (.old 16 16 _ _ _ rfl rfl (.data_eq rfl) (.old 17 17 _ _ _ rfl rfl (.data_eq rfl) .nil))),(by rfl)⟩
 ·have hfin:(w.t.take i).map (·.cache)=zU w:=by
   rw [show i=w.t.length by simp at h;omega,List.take_length];rfl
  show ARet ..
  exact ⟨[(1,0),(16,16),(17,17)],[(0,.data .lists (zU w)),(16,.data .thread w.t),(17,.data .res w.log)],[.c (.own 0)],.cons _ _ _ _ (.c _ _ (.own _ _ rfl)) .nil,.old 0 1 _ _ _ rfl rfl (.data_eq hfin) (.old 16 16 _ _ _ rfl rfl (.data_eq rfl) (.old 17 17 _ _ _ rfl rfl (.data_eq rfl) .nil)),rfl,rfl,rfl⟩
theorem zqZ (t:Thread):Spec X 69 [] (t.tv :: zcE []) (Ret [] (.bo (!decide t.mayT))):=by
 refine zd X_ok Tryz.f69 (by kernel_rfl) (by kernel_rfl) (by kernel_rfl) fun hb _=>⟨rfl,?_⟩
 show ACall ..
 refine za (zjS t) rfl ?_
 show ARet ..
 exact zi rfl ⟨rfl,rfl⟩
theorem zlW (w : Wd) (hc : ∀ t ∈ w.t, t.ok) (hf : w.t.length ≤ 4 → (zm (zdV w.h (zU w))).length ≤ most) : Spec X 36 [] [w.tv] (Ret [] (.bo (zaO w))) := by
  refine zd X_ok Tryz.f36 (by kernel_rfl) (by kernel_rfl) (by kernel_rfl) fun hb hH => ⟨rfl, ?_⟩
  unfold zaO
  show ABr (decide ((w.t.length : Int) ≤ 4)) _ _
  by_cases h1 : w.t.length ≤ 4
  · rw [decide_eq_true (show (w.t.length : Int) ≤ 4 by omega), decide_eq_true h1]
    show ABr _ _ _
    refine ⟨fun _ => ?_, fun h => absurd h (by decide)⟩
    show ADCall _ _ _ _ _ _
    refine .mk _ _ (zfq w.t 69 [] (fun t => !decide t.mayT) (fun x _ => zqZ x)) rfl ?_
    cases h2 : w.t.any fun t => !decide t.mayT with
    | true =>
      show ABr _ _ _
      refine ⟨fun h => absurd h (by decide), fun _ => ?_⟩
      show ABr _ _ _
      refine ⟨fun h => absurd h (by decide), fun _ => ?_⟩
      show ARet _ _ _
      exact zi rfl ⟨rfl, rfl⟩
    | false =>
      show ABr _ _ _
      refine ⟨fun _ => ?_, fun h => absurd h (by decide)⟩
      show ADCall _ _ _ _ _ _
      refine .mk _ _ (zgF w.c) rfl ?_
      cases h3 : zbp w.c with
      | false =>
        show ABr _ _ _
        refine ⟨fun h => absurd h (by decide), fun _ => ?_⟩
        show ARet _ _ _
        exact zi rfl ⟨rfl, rfl⟩
      | true =>
        show ABr _ _ _
        refine ⟨fun _ => ?_, fun h => absurd h (by decide)⟩
        show ADCall _ _ _ _ _ _
        refine .mk _ _ (zmH w h1 hc) rfl ?_
        show ADCall _ _ _ _ _ _
        refine .mk _ _ (zqy w.h (zU w) (hf h1) (by unfold zU; rw [List.length_map]; unfold most; omega)) rfl ?_
        show ARet _ _ _
        exact zi rfl ⟨rfl, rfl⟩
  · rw [decide_eq_false (show ¬ (w.t.length : Int) ≤ 4 by omega), decide_eq_false h1]
    show ABr _ _ _
    refine ⟨fun h => absurd h (by decide), fun _ => ?_⟩
    show ABr _ _ _
    refine ⟨fun h => absurd h (by decide), fun _ => ?_⟩
    show ABr _ _ _
    refine ⟨fun h => absurd h (by decide), fun _ => ?_⟩
    show ARet _ _ _
    exact zi rfl ⟨rfl, rfl⟩
theorem znm (l:List Thread) (h:l.length≤most):Spec X 66 [] [.c (.d (.sl .thread l))] (Ret [(0,.data .thread l)] (.c (.own 0))):=by
 refine zd X_ok Tryz.f66 (by kernel_rfl) (by kernel_rfl) (by kernel_rfl) fun hb _=>⟨rfl,?_⟩
 intro b (hnil:b=true→l=[])
 show ABr ..
 refine ⟨fun hb=>?_,fun hb=>?_⟩
 ·have e:=hnil hb
  subst e
  show ARet ..
  exact ⟨[],[(0,.data .thread [])],[.c (.own 0)],.cons _ _ _ _ (.c _ _ (.nilown 0 .thread rfl rfl)) .nil,.new 0 .thread _ rfl .nil,rfl,rfl,rfl⟩
 ·show AOb (0+l.length≤most) _
  refine ⟨by omega,?_⟩
  show ARet ..
  exact ⟨[(_,0)],[(0,.data .thread l)],[.c (.own 0)],.cons _ _ _ _ (.c _ _ (.own1 _ _)) .nil,.old 0 _ _ _ _ rfl rfl (.data_eq rfl) .nil,rfl,rfl,rfl⟩
theorem zla (l:List Res) (h:l.length≤most):Spec X 67 [] [.c (.d (.sl .res l))] (Ret [(0,.data .res l)] (.c (.own 0))):=by
 refine zd X_ok Tryz.f67 (by kernel_rfl) (by kernel_rfl) (by kernel_rfl) fun hb _=>⟨rfl,?_⟩
 intro b (hnil:b=true→l=[])
 show ABr ..
 refine ⟨fun hb=>?_,fun hb=>?_⟩
 ·have e:=hnil hb
  subst e
  show ARet ..
  exact ⟨[],[(0,.data .res [])],[.c (.own 0)],.cons _ _ _ _ (.c _ _ (.nilown 0 .res rfl rfl)) .nil,.new 0 .res _ rfl .nil,rfl,rfl,rfl⟩
 ·show AOb (0+l.length≤most) _
  refine ⟨by omega,?_⟩
  show ARet ..
  exact ⟨[(_,0)],[(0,.data .res l)],[.c (.own 0)],.cons _ _ _ _ (.c _ _ (.own1 _ _)) .nil,.old 0 _ _ _ _ rfl rfl (.data_eq rfl) .nil,rfl,rfl,rfl⟩
theorem zoI {α:Type} [Inhabited α] {l:List α} {i:Nat} (h:i < l.length):l.set i (l.getD i default)=l:=by
 rw [List.getD_eq_getElem?_getD,List.getElem?_eq_getElem h]
 exact List.set_getElem_self h
theorem zr4 {l:List Thread} {i j:Nat} {x:Thread} (h:j < l.length):j < (l.set i x).length:=by rw [List.length_set];exact h
theorem zvu {l:List Thread} {i:Nat} (h:i < l.length):(l.set i (l.getD i default)).set i { (l.set i (l.getD i default)).getD i default with cache:=(l.map (·.cache)).getD i default }=l:=by
 rw [zoI h]
 have e:(l.map (·.cache)).getD i default=(l.getD i default).cache:=by
  rw [List.getD_eq_getElem?_getD,List.getD_eq_getElem?_getD,List.getElem?_map,List.getElem?_eq_getElem h]
  rfl
 rw [e]
 exact zoI h
theorem zlA (w:Wd) (hF:w.Fit):Spec X 35 [] [w.tv] (Ret [(0,.data .thread w.t),(1,.data .res w.log)] (.agg (wdO w 0 1))):=by
 refine zd X_ok Tryz.f35 (by kernel_rfl) (by kernel_rfl) (by kernel_rfl) fun hb hH=>⟨rfl,?_⟩
 obtain ⟨⟨h1,h2,h3,h4,h5,h6⟩,hw,hl,hth,_,hlog⟩:=hF
 show ADCall ..
 refine .mk _ _ (ze w.h.w h1) rfl ?_
 show ADCall ..
 refine .mk _ _ (zW w.h.pages h2) rfl ?_
 show ADCall ..
 refine .mk _ _ (zaf w.h.cards h3) rfl ?_
 show ∃ n,_
 refine ⟨4,?_⟩
 show ALoop ..
 refine .next ?_
 show ABr ..
 refine ⟨fun _=>?_,fun h=>absurd h (by decide)⟩
 show AOb ..
 refine ⟨by decide,?_⟩
 show ACall ..
 refine za (ze w.h.free.l0 h4) rfl ?_
 show AOb ..
 refine ⟨by decide,?_⟩
 show ALoop ..
 refine .next ?_
 show ABr ..
 refine ⟨fun _=>?_,fun h=>absurd h (by decide)⟩
 show AOb ..
 refine ⟨by decide,?_⟩
 show ACall ..
 refine za (ze w.h.free.l1 h5) rfl ?_
 show AOb ..
 refine ⟨by decide,?_⟩
 show ALoop ..
 refine .next ?_
 show ABr ..
 refine ⟨fun _=>?_,fun h=>absurd h (by decide)⟩
 show AOb ..
 refine ⟨by decide,?_⟩
 show ACall ..
 refine za (ze w.h.free.l2 h6) rfl ?_
 show AOb ..
 refine ⟨by decide,?_⟩
 show ALoop ..
 refine .next ?_
 show ABr ..
 refine ⟨fun h=>absurd h (by decide),fun _=>?_⟩
 show ADCall ..
 refine .mk _ _ (ze w.c.work (Nat.le_of_lt hw)) rfl ?_
 show ADCall ..
 refine .mk _ _ (znm w.t (by unfold most;omega)) rfl ?_
 show ADCall ..
 refine .mk _ _ (zla w.log (Nat.le_of_lt hlog)) rfl ?_
 show ACall ..
 refine .hand [(2464,16),(2560,17)] [(16,.data .thread w.t),(17,.data .res w.log)] [.agg (wdO w 16 17)] _ (.cons _ _ _ _ (.agg _ _ ?_) .nil) (.old 16 2464 _ _ _ rfl rfl (.data_eq rfl) (.old 17 2560 _ _ _ rfl rfl (.data_eq rfl) .nil)) rfl (zlc w hl fun t ht=>(hth t ht).1) ?_
 ·repeat (first | exact .nil | refine .cons _ _ _ _ (.d _) ?_ | refine .cons _ _ _ _ (.own _ _ rfl) ?_)
 rintro H r ⟨rfl,rfl⟩ _ _
 refine ⟨rfl,.inl rfl,?_⟩
 show ∃ n,_
 refine ⟨0,ALoop.inv (ι:={i:Nat // i≤w.t.length}) (fun q=>⟨[(1,.c (.ptr 0 0 0)),(2,.c (.ptr 1 0 0)),(5,.c (.own 4)),(57,.int ((w.t.length:Int))),(58,.int (q.1))],[(0,.vars (wdO w 2 3)),(1,.vars (List.replicate 18 .any)),(2,.data .thread w.t),(3,.data .res w.log),(4,.data .lists (zU w))],64⟩) (fun q=>w.t.length - q.1) ⟨0,Nat.zero_le _⟩ ?_ ?_⟩
 ·exact ⟨[(32,0),(64,1),(2464,2),(2560,3),(2848,4)],(by repeat' first | exact .nil | refine .cons _ _ _ ?_ ?_ | exact .c _ _ (.ptr _ _ _ _ rfl) | exact .c _ _ (.own _ _ rfl) | exact .same | exact .c _ _ (.own _ _ rfl) | exact .c _ _ (.ptr _ _ _ _ rfl) | exact .c _ _ (.frz _ _ rfl) | exact .any _),(by exact .old 0 32 _ _ _ rfl rfl (.vars _ _ (by repeat (first | exact .nil | refine .cons _ _ _ _ (.d _) ?_ | refine .cons _ _ _ _ (.own _ _ rfl) ?_))) (.old 1 64 _ _ _ rfl rfl (.vars _ _ (by repeat (first | exact .nil | refine .cons _ _ _ _ (.any _) ?_))) (.old 2 2464 _ _ _ rfl rfl (.data_eq rfl) (.old 3 2560 _ _ _ rfl rfl (.data_eq rfl) (.old 4 2848 _ _ _ rfl rfl (.data_eq rfl) .nil))))),(by rfl)⟩
 rintro ⟨i,hi⟩
 show ABr (decide ((i:Int) < (w.t.length:Int))) _ _
 refine ⟨fun h=>?_,fun h=>?_⟩
 ·have hlt:i < w.t.length:=by simpa using h
  have wi:IntKind.i64.wrap ((i:Int)+1)=((i+1:Nat):Int):=zad (i:=i) (by unfold zD;omega)
  have hcl:i < (zU w).length:=by unfold zU;rw [List.length_map];exact hlt
  show AOb ..
  refine ⟨by exact ⟨Int.natCast_nonneg _,Int.ofNat_lt.2 hlt⟩,?_⟩
  show AOb ..
  refine ⟨by exact hlt,?_⟩
  show ADCall ..
  refine .mk _ _ (zbY (w.t.getD i default).ops (hth _ (zcf hlt)).1.1) rfl ?_
  show AOb ..
  refine ⟨by exact ⟨Int.natCast_nonneg _,Int.ofNat_lt.2 hcl⟩,?_⟩
  show AOb ..
  refine ⟨by exact hcl,?_⟩
  show AOb ..
  refine ⟨by exact ⟨Int.natCast_nonneg _,Int.ofNat_lt.2 hlt⟩,?_⟩
  show AOb ..
  refine ⟨by exact hlt,?_⟩
  show AOb ..
  refine ⟨by exact ⟨Int.natCast_nonneg _,Int.ofNat_lt.2 (zr4 hlt)⟩,?_⟩
  show AOb ..
  refine ⟨by exact zr4 hlt,?_⟩
  show ARound ..
  exact ⟨⟨i+1,hlt⟩,(by dsimp only;omega),[(0,0),(1,1),(2,2),(3,3),(4,4)],(by repeat' first | exact .nil | refine .cons _ _ _ ?_ ?_ | exact .c _ _ (.ptr _ _ _ _ rfl) | exact .c _ _ (.own _ _ rfl) | exact .int_eq wi | exact .same | exact .c _ _ (.own _ _ rfl) | exact .c _ _ (.ptr _ _ _ _ rfl) | exact .c _ _ (.frz _ _ rfl) | exact .any _),(by exact .old 0 0 _ _ _ rfl rfl (.vars _ _ (by repeat (first | exact .nil | refine .cons _ _ _ _ (.d _) ?_ | refine .cons _ _ _ _ (.own _ _ rfl) ?_))) (.old 1 1 _ _ _ rfl rfl (.vars _ _ (by repeat (first | exact .nil | refine .cons _ _ _ _ (.any _) ?_))) (.old 2 2 _ _ _ rfl rfl (.data_eq (zvu hlt)) (.old 3 3 _ _ _ rfl rfl (.data_eq rfl) (.old 4 4 _ _ _ rfl rfl (.data_eq rfl) .nil))))),(by rfl)⟩
 ·show ARet ..
  exact ⟨[(2,0),(3,1)],[(0,.data .thread w.t),(1,.data .res w.log)],[.agg (wdO w 0 1)],.cons _ _ _ _ (.agg _ _ (by repeat (first | exact .nil | refine .cons _ _ _ _ (.d _) ?_ | refine .cons _ _ _ _ (.own _ _ rfl) ?_))) .nil,.old 0 2 _ _ _ rfl rfl (.data_eq rfl) (.old 1 3 _ _ _ rfl rfl (.data_eq rfl) .nil),rfl,rfl,rfl⟩
end Go.Abs
namespace Go.Abs
set_option maxRecDepth 8000
structure ColSame (c d:Col):Prop where
 epoch:d.epoch=c.epoch
 phase:d.phase=c.phase
 major:d.major=c.major
theorem ColSame.refl (c:Col):ColSame c c:=⟨rfl,rfl,rfl⟩
theorem ColSame.trans {a b c:Col} (h:ColSame a b) (k:ColSame b c):ColSame a c:=⟨k.epoch.trans h.epoch,k.phase.trans h.phase,k.major.trans h.major⟩
theorem zgx (g:Hp) (c:Col) (a:Int):ColSame c (zae g c a):=by
 unfold zae
 cases decide (atK g c a=1) with
 | false=>exact .refl c
 | true=>cases decide ((c.work.length:Int) < 4) <;> exact ⟨rfl,rfl,rfl⟩
theorem zks (g:Hp) (c:Col) (t:Thread):ColSame c (ansC g c t):=by
 unfold ansC
 split
 ·exact zgx g c _
 ·exact .refl c
def ThSame (t u:Thread):Prop:=u.live=false∨(u.live=t.live∧u.epoch=t.epoch∧u.stage=t.stage)
structure MuSame (m k:Mu):Prop where
 c:ColSame m.c k.c
 t:ThSame m.t k.t
theorem ThSame.refl (t:Thread):ThSame t t:=.inr ⟨rfl,rfl,rfl⟩
theorem ThSame.trans {a b c:Thread} (h:ThSame a b) (k:ThSame b c):ThSame a c:=by
 rcases k with k | ⟨k1,k2,k3⟩
 ·exact .inl k
 ·rcases h with h | ⟨h1,h2,h3⟩
  ·exact .inl (k1.trans h)
  ·exact .inr ⟨k1.trans h1,k2.trans h2,k3.trans h3⟩
theorem MuSame.refl (m:Mu):MuSame m m:=⟨.refl _,.refl _⟩
theorem MuSame.trans {a b c:Mu} (h:MuSame a b) (k:MuSame b c):MuSame a c:=⟨h.c.trans k.c,h.t.trans k.t⟩
theorem zb0 (m:Mu) (e v:Int):MuSame m (endM m e v):=⟨.refl _,.inr ⟨rfl,rfl,rfl⟩⟩
theorem zmi (m:Mu) (r a:Int):MuSame m (zc2 m r a):=by
 unfold zc2 Thread.setReg
 split
 ·refine ⟨.refl _,.inr ?_⟩
  show (ite _ _ _:Thread).live=_∧(ite _ _ _:Thread).epoch=_∧(ite _ _ _:Thread).stage=_
  split
  ·exact ⟨rfl,rfl,rfl⟩
  ·split
   ·exact ⟨rfl,rfl,rfl⟩
   ·split <;> exact ⟨rfl,rfl,rfl⟩
 ·exact .refl m
theorem zh3 (m:Mu) (a:Int):MuSame m (zc7 m a):=by
 refine ⟨?_,.inr ⟨rfl,rfl,rfl⟩⟩
 show ColSame m.c (if zgN m.c m.t=true then zae m.h m.c a else m.c)
 split
 ·exact zgx _ _ _
 ·exact .refl _
theorem ztu (m:Mu):MuSame m (zgl m):=by
 unfold zgl
 split
 ·unfold createM
  split
  ·exact (zmi _ _ _).trans (zb0 _ _ _)
  ·split
   ·exact zb0 _ _ _
   ·split
    ·exact zb0 _ _ _
    ·exact ⟨.refl _,.inr ⟨rfl,rfl,rfl⟩⟩
 ·split
  ·unfold loadM
   split
   ·exact zb0 _ _ _
   ·split
    ·exact zb0 _ _ _
    ·exact (zmi _ _ _).trans (zb0 _ _ _)
  ·split
   ·unfold storeM
    split
    ·unfold zia
     split
     ·exact zb0 _ _ _
     ·exact ⟨.refl _,.inr ⟨rfl,rfl,rfl⟩⟩
    ·split
     ·exact zh3 _ _
     ·split
      ·exact zh3 _ _
      ·split
       ·unfold zh4
        split
        ·exact zb0 _ _ _
        ·exact ⟨.refl _,.inr ⟨rfl,rfl,rfl⟩⟩
       ·unfold zh1
        split <;> exact ⟨.refl _,.inr ⟨rfl,rfl,rfl⟩⟩
   ·split
    ·exact (zmi _ _ _).trans (zb0 _ _ _)
    ·split
     ·exact zb0 _ _ _
     ·split
      ·exact zb0 _ _ _
      ·split
       ·exact ⟨.refl _,.inl rfl⟩
       ·exact zb0 _ _ _
theorem zrR (g:Hp) (c:Col) (t:Thread):MuSame ⟨g,c,t,Res.zero,false⟩ (mutS g c t):=by
 unfold mutS
 split
 ·exact ztu _
 ·exact .refl _
def AnsT (c:Col) (t:Thread):Prop:=t.live=true→(2≤c.phase→t.epoch=c.epoch)∧(c.phase=3→2≤t.stage)∧(4≤c.phase→t.stage=3)
def AnsW (w:Wd):Prop:=∀ t∈w.t,AnsT w.c t
theorem AnsT.col {c d:Col} {t:Thread} (h:AnsT c t) (s:ColSame c d):AnsT d t:=fun hl=>by
 rw [s.phase,s.epoch];exact h hl
theorem AnsT.th {c:Col} {t u:Thread} (h:AnsT c t) (s:ThSame t u):AnsT c u:=fun hl=>by
 rcases s with s | ⟨s1,s2,s3⟩
 ·rw [s] at hl;cases hl
 ·rw [s2,s3];exact h (s1 ▸ hl)
theorem AnsT.ans {c:Col} {t:Thread} (h:AnsT c t):AnsT c (ansT c t):=by
 by_cases ha:zaK c t=true
 ·have hl:=(zj8 ha).1
  obtain ⟨h1,h2,h3⟩:=h hl
  rcases zdx ha with ⟨g1,_,e⟩ | ⟨g1,g2,g3,_,e⟩ | ⟨g1,g2,g3,g4,g5,_,e⟩
  ·rw [e]
   intro _
   refine ⟨fun _=>rfl,fun k=>?_,fun k=>?_⟩
   ·exact absurd (h1 (by omega)) g1
   ·exact absurd (h1 (by omega)) g1
  ·rw [e]
   intro _
   exact ⟨fun _=>g1,fun k=>by omega,fun k=>by omega⟩
  ·rw [e]
   split
   ·intro _
    exact ⟨fun _=>g1,fun k=>by show (2:Int)≤3;decide,fun k=>rfl⟩
   ·intro _
    exact ⟨fun _=>g1,h2,h3⟩
 ·have:ansT c t=t:=by
   have hk:za8 c t=0:=by unfold za8;rw [if_neg ha]
   unfold ansT
   rw [hk]
   rfl
  rw [this]
  exact h
theorem AnsT.begin {c : Col} {t : Thread} {l : List Thread} (h : ∀ x ∈ l, AnsT c x) : AnsT c (beginT c t l) := by
  intro _
  unfold beginT
  cases hf : l.find? (·.live) with
  | some x =>
    have hx := List.mem_of_find?_eq_some hf
    have hl := List.find?_some hf
    exact h x hx hl
  | none =>
    refine ⟨fun k => ?_, fun k => ?_, fun k => ?_⟩
    · show (if c.phase = 0 then 0 else c.epoch) = c.epoch
      rw [if_neg (by omega)]
    · show 2 ≤ zcm c.phase
      rw [k]; decide
    · show zcm c.phase = 3
      unfold zcm
      rw [if_neg (by omega), if_neg (by omega), if_neg (by omega)]
theorem zpU {c:Col} {l:List Thread} (h:zjc c l=true) {t:Thread} (ht:t∈l) (hl:t.live=true):zal c t=true:=by
 have:=List.all_eq_true.1 h t ht
 rw [hl] at this
 simpa using this
theorem AnsW.col {w:Wd} (h:AnsW w):AnsW (colW w):=by
 intro t ht hl
 have ht:t∈w.t:=ht
 obtain ⟨h1,h2,h3⟩:=h t ht hl
 obtain ⟨e1,_,e2,_⟩:=(zhn w.h w.c w.t).col
 show (2≤(zcr w.h w.c w.t).2.phase→t.epoch=(zcr w.h w.c w.t).2.epoch)∧((zcr w.h w.c w.t).2.phase=3→2≤t.stage)∧(4≤(zcr w.h w.c w.t).2.phase→t.stage=3)
 rw [e1]
 rcases e2 with ⟨e,_⟩ | ⟨g1,g2,ha,e⟩ | ⟨g1,ha,e⟩ | ⟨g1,g2,e⟩ | ⟨g1,e⟩
 ·rw [e];exact ⟨h1,h2,h3⟩
 ·have hb:=zpU ha ht hl
  unfold zal at hb
  rw [if_neg (by omega)] at hb
  by_cases hp:w.c.phase=1
  ·rw [if_pos hp] at hb
   have:=of_decide_eq_true hb
   exact ⟨fun _=>this,fun k=>by omega,fun k=>by omega⟩
  ·rw [if_neg hp,if_pos (by omega)] at hb
   obtain ⟨b1,b2⟩:=of_decide_eq_true hb
   exact ⟨fun _=>b1,fun _=>b2,fun k=>by omega⟩
 ·have hb:=zpU ha ht hl
  unfold zal at hb
  rw [if_neg (by omega),if_neg (by omega),if_neg (by omega)] at hb
  obtain ⟨b1,b2⟩:=of_decide_eq_true hb
  exact ⟨fun _=>b1,fun _=>by omega,fun _=>b2⟩
 ·exact ⟨fun _=>h1 (by omega),fun k=>by omega,fun _=>h3 (by omega)⟩
 ·exact ⟨fun k=>by omega,fun k=>by omega,fun k=>by omega⟩
theorem za6 {l:List Thread} {i:Nat} {x t:Thread} (h:t∈l.set i x):t∈l∨t=x:=List.mem_or_eq_of_mem_set h
theorem zdj {w:Wd} {n:Int} (h:ze3 w n=true):thW w n∈w.t:=by
 have hr:0≤n∧n < (w.t.length:Int):=of_decide_eq_true h
 have hlt:n.toNat < w.t.length:=by omega
 show w.t.getD n.toNat default∈w.t
 rw [List.getD_eq_getElem?_getD,List.getElem?_eq_getElem hlt]
 exact List.getElem_mem hlt
theorem AnsW.step {w:Wd} (h:AnsW w) (n:Int):AnsW (stepW w n):=by
 unfold stepW
 split
 ·exact h
 ·rename_i hi
  have hi:ze3 w n=true:=by simpa using hi
  have hm:=zdj hi
  split
  ·exact h
  ·split
   ·intro t ht
    rcases za6 ht with ht | rfl
    ·exact (h t ht).col (zks _ _ _)
    ·exact (h _ hm).ans.col (zks _ _ _)
   ·have hs:=zrR w.h w.c (thW w n)
    intro t ht
    rcases za6 ht with ht | rfl
    ·exact (h t ht).col hs.c
    ·exact ((h _ hm).th hs.t).col hs.c
theorem AnsW.start {w:Wd} (h:AnsW w) (m:Bool):AnsW (startW w m):=by
 unfold startW
 split
 ·rename_i he
  intro t ht hl
  have e:(zbJ w.c m).phase=1:=by unfold zbJ;rw [if_pos he]
  show (2≤(zbJ w.c m).phase→_)∧((zbJ w.c m).phase=3→_)∧(4≤(zbJ w.c m).phase→_)
  rw [e]
  exact ⟨fun k=>by omega,fun k=>by omega,fun k=>by omega⟩
 ·exact h
theorem AnsW.begin {w:Wd} (h:AnsW w) (n:Int):AnsW (beginW w n):=by
 unfold beginW
 split
 ·exact h
 ·split
  ·exact h
  ·intro t ht
   rcases za6 ht with ht | rfl
   ·exact h t ht
   ·exact .begin h
theorem AnsW.do_ {w:Wd} (h:AnsW w) (e:Pair):AnsW (doW w e):=by
 unfold doW
 split
 ·unfold doW1
  split
  ·exact h.step _
  ·split
   ·exact h.col
   ·split
    ·exact h.start _
    ·split
     ·exact h.start _
     ·split
      ·exact h.begin _
      ·exact h
 ·exact h
end Go.Abs
namespace Go.Abs
open Go.Proofs Go.Proofs.YtlankjlnnimdoaaGreatDoor
set_option maxRecDepth 60000
set_option maxHeartbeats 4000000
theorem ztn {L : List Lists} {x : Lists} (h : x ∈ L) : x.flat.length ≤ (zm L).length := by
  unfold zm
  induction L with
  | nil => cases h
  | cons y r ih =>
    rw [List.flatMap_cons, List.length_append]
    rcases List.mem_cons.1 h with rfl | h
    · omega
    · have := ih h; omega
theorem Wd.Fit.light {w:Wd} (h:w.Fit):w.h.light:=by
 have:=h.flat
 unfold Hp.light
 unfold zm at this ⊢
 rw [List.flatMap_cons,List.length_append] at this
 rw [List.flatMap_cons,List.length_append]
 show _+0≤_
 omega
theorem Wd.Fit.one {w:Wd} (h:w.Fit) {t:Thread} (ht:t∈w.t):(zm (zdV w.h [t.cache])).length≤most:=by
 have h1:=h.flat
 have h2:t.cache.flat.length≤(zm (zU w)).length:=ztn (List.mem_map_of_mem ht)
 unfold zm at h1 h2 ⊢
 rw [List.flatMap_cons,List.length_append] at h1
 rw [List.flatMap_cons,List.length_append,List.flatMap_cons,List.length_append]
 show _+(_+0)≤_
 omega
abbrev rnH (w:Wd):zg:=[(16,.vars (wdO w 17 18)),(17,.data .thread w.t),(18,.data .res w.log)]
theorem zog (w:Wd) (n:Int):Spec X 113 [] [.c (.d (.rp w.cells)),.int n] (Ret [] (.bo (ze3 w n))):=by
 refine zd X_ok Tryz.f113 (by kernel_rfl) (by kernel_rfl) (by kernel_rfl) fun hb hH=>⟨rfl,?_⟩
 show ARet ..
 refine zw (x:=bif decide (n≥0) then decide (n < (w.t.length:Int)) else false) ?_ ⟨rfl,rfl⟩
 unfold ze3
 by_cases h:n≥0
 ·rw [decide_eq_true h]
  show decide _=decide _
  rw [decide_eq_decide]
  omega
 ·rw [decide_eq_false h,show decide (0≤n∧n < (w.t.length:Int))=false from decide_eq_false (by omega)]
  rfl
theorem ziE (w:Wd) (m:Bool):Spec X 118 (rnH w) [.c (.ptr 16 0 0),.bo m] (fun H r=>H=rnH (startW w m)∧r = .int (zaz w.c)):=by
 refine zd X_ok Tryz.f118 (by kernel_rfl) (by kernel_rfl) (by kernel_rfl) fun hb hH=>⟨rfl,?_⟩
 unfold startW
 show ACall ..
 refine za (zmL w.c m) rfl ?_
 show ABr (zaz w.c == 0) _ _
 by_cases h:zaz w.c=0
 ·rw [if_pos h,show (zaz w.c == 0)=true by simpa using h]
  show ABr ..
  refine ⟨fun _=>?_,fun h=>absurd h (by decide)⟩
  show ARet ..
  exact ⟨[(16,16),(17,17),(18,18)],rnH ({ w with c:=zbJ w.c m }),[.int (zaz w.c)],.cons _ _ _ _ .same .nil,.old 16 16 _ _ _ rfl rfl (.vars _ _ (by repeat (first | exact .nil | refine .cons _ _ _ _ (.d _) ?_ | refine .cons _ _ _ _ (.own _ _ rfl) ?_))) (.old 17 17 _ _ _ rfl rfl (.data_eq rfl) (.old 18 18 _ _ _ rfl rfl (.data_eq rfl) .nil)),rfl,rfl,rfl⟩
 ·rw [if_neg h,show (zaz w.c == 0)=false by simpa using h]
  show ABr ..
  refine ⟨fun h=>absurd h (by decide),fun _=>?_⟩
  show ARet ..
  exact ⟨[(16,16),(17,17),(18,18)],rnH (w),[.int (zaz w.c)],.cons _ _ _ _ .same .nil,.old 16 16 _ _ _ rfl rfl (.vars _ _ (by repeat (first | exact .nil | refine .cons _ _ _ _ (.d _) ?_ | refine .cons _ _ _ _ (.own _ _ rfl) ?_))) (.old 17 17 _ _ _ rfl rfl (.data_eq rfl) (.old 18 18 _ _ _ rfl rfl (.data_eq rfl) .nil)),rfl,rfl,rfl⟩
theorem zoA (w:Wd) (n:Int):Spec X 76 (rnH w) [.c (.ptr 16 0 0),.int n] (fun H r=>H=rnH (startW w false)∧r = .int (zaz w.c)):=by
 refine zd X_ok Tryz.f76 (by kernel_rfl) (by kernel_rfl) (by kernel_rfl) fun hb hH=>⟨rfl,?_⟩
 show ACall ..
 refine .hand [(16,16),(17,17),(18,18)] (rnH w) [.c (.ptr 16 0 0),.bo false] _ (.cons _ _ _ _ (.c _ _ (.ptr _ _ _ _ rfl)) (.cons _ _ _ _ .same .nil)) (.old 16 16 _ _ _ rfl rfl (.vars _ _ (by repeat (first | exact .nil | refine .cons _ _ _ _ (.d _) ?_ | refine .cons _ _ _ _ (.own _ _ rfl) ?_))) (.old 17 17 _ _ _ rfl rfl (.data_eq rfl) (.old 18 18 _ _ _ rfl rfl (.data_eq rfl) .nil))) rfl (ziE w false) ?_
 rintro H r ⟨rfl,rfl⟩ _ _
 refine ⟨rfl,.inl rfl,?_⟩
 generalize startW w false=w'
 show ARet ..
 exact ⟨[(16,16),(17,17),(18,18)],rnH (w'),[.int (zaz w.c)],.cons _ _ _ _ .same .nil,.old 16 16 _ _ _ rfl rfl (.vars _ _ (by repeat (first | exact .nil | refine .cons _ _ _ _ (.d _) ?_ | refine .cons _ _ _ _ (.own _ _ rfl) ?_))) (.old 17 17 _ _ _ rfl rfl (.data_eq rfl) (.old 18 18 _ _ _ rfl rfl (.data_eq rfl) .nil)),rfl,rfl,rfl⟩
theorem zob (w:Wd) (n:Int):Spec X 77 (rnH w) [.c (.ptr 16 0 0),.int n] (fun H r=>H=rnH (startW w true)∧r = .int (zaz w.c)):=by
 refine zd X_ok Tryz.f77 (by kernel_rfl) (by kernel_rfl) (by kernel_rfl) fun hb hH=>⟨rfl,?_⟩
 show ACall ..
 refine .hand [(16,16),(17,17),(18,18)] (rnH w) [.c (.ptr 16 0 0),.bo true] _ (.cons _ _ _ _ (.c _ _ (.ptr _ _ _ _ rfl)) (.cons _ _ _ _ .same .nil)) (.old 16 16 _ _ _ rfl rfl (.vars _ _ (by repeat (first | exact .nil | refine .cons _ _ _ _ (.d _) ?_ | refine .cons _ _ _ _ (.own _ _ rfl) ?_))) (.old 17 17 _ _ _ rfl rfl (.data_eq rfl) (.old 18 18 _ _ _ rfl rfl (.data_eq rfl) .nil))) rfl (ziE w true) ?_
 rintro H r ⟨rfl,rfl⟩ _ _
 refine ⟨rfl,.inl rfl,?_⟩
 generalize startW w true=w'
 show ARet ..
 exact ⟨[(16,16),(17,17),(18,18)],rnH (w'),[.int (zaz w.c)],.cons _ _ _ _ .same .nil,.old 16 16 _ _ _ rfl rfl (.vars _ _ (by repeat (first | exact .nil | refine .cons _ _ _ _ (.d _) ?_ | refine .cons _ _ _ _ (.own _ _ rfl) ?_))) (.old 17 17 _ _ _ rfl rfl (.data_eq rfl) (.old 18 18 _ _ _ rfl rfl (.data_eq rfl) .nil)),rfl,rfl,rfl⟩
abbrev rnF (w:Wd):zg:=[(16,.vars ((w.h.enc ++ w.c.enc).map CV.d ++ [.d (.sl .thread w.t),.own 18])),(17,.dead),(18,.data .res w.log)]
theorem ztk (w:Wd) (n:Int) (hF:w.Fit):Spec X 75 (rnH w) [.c (.ptr 16 0 0),.int n] (fun H r=>H=rnF (colW w)∧r = .int 0):=by
 refine zd X_ok Tryz.f75 (by kernel_rfl) (by kernel_rfl) (by kernel_rfl) fun hb hH=>⟨rfl,?_⟩
 have hlt:w.h.light:=hF.light
 obtain ⟨hs,hw,hl,hth,hfl,hlog⟩:=hF
 show ADCall ..
 refine .any (.tup [(zcr w.h w.c w.t).1.tv,(zcr w.h w.c w.t).2.tv]) [(16,.vars ((w.h.enc ++ w.c.enc).map CV.d ++ [.d (.sl .thread w.t),.own 18])),(17,.dead)] (.frz [17] [(16,.vars ((w.h.enc ++ w.c.enc).map CV.d ++ [.d (.sl .thread w.t),.own 18]))] [w.h.tv,w.c.tv,.c (.d (.sl .thread w.t))] _ rfl (.vars 16 _ _ _ rfl rfl ?_ .nil) (.cons _ _ _ _ (.agg _ _ ?_) (.cons _ _ _ _ (.agg _ _ ?_) (.cons _ _ _ _ (.c _ _ (.frz _ _ rfl)) .nil))) rfl (zok w.h w.c w.t hlt hs hw) ?_) ?_
 ·repeat (first | exact .nil | refine .cons _ _ _ _ (.same _) ?_ | refine .cons _ _ _ _ (.frz _ _ rfl) ?_)
 ·repeat (first | exact .nil | refine .cons _ _ _ _ (.same _) ?_)
 ·repeat (first | exact .nil | refine .cons _ _ _ _ (.same _) ?_)
 ·rintro H r ⟨rfl,rfl⟩ _ _
  exact ⟨rfl,rfl⟩
 unfold colW
 generalize (zcr w.h w.c w.t).1=g'
 generalize (zcr w.h w.c w.t).2=c'
 show ARet ..
 exact ⟨[(16,16),(17,17),(18,18)],rnF { h:=g',c:=c',t:=w.t,log:=w.log },[.int 0],.cons _ _ _ _ .same .nil,.old 16 16 _ _ _ rfl rfl (.vars _ _ (by repeat (first | exact .nil | refine .cons _ _ _ _ (.d _) ?_ | refine .cons _ _ _ _ (.own _ _ rfl) ?_))) (.old 17 17 _ _ _ rfl rfl .dead (.old 18 18 _ _ _ rfl rfl (.data_eq rfl) .nil)),rfl,rfl,rfl⟩
theorem znP (c : Col) (t : Thread) (l : List Thread) (ht : t.ok) : Spec X 119 [(16, .data .thread l)] [c.tv, t.tv, .c (.own 16)] (fun H r => H = [(16, .data .thread l)] ∧ r = (beginT c t l).tv) := by
  refine zd X_ok Tryz.f119 (by kernel_rfl) (by kernel_rfl) (by kernel_rfl) fun hb hH => ⟨rfl, ?_⟩
  show ACall _ _ _ _ _ _
  refine za ((ziO Hp.zero Col.zero t ⟨by decide, by decide, by decide, by decide, by decide, by decide⟩ (by decide) ht).args (.cons _ _ _ _ (.agg _ _ ?_) (.cons _ _ _ _ (.agg _ _ ?_) (.cons _ _ _ _ (.refl _) .nil)))) rfl ?_
  · repeat (first | exact .nil | refine .cons _ _ _ ?_ | refine .sl _ _ _ _ _ rfl ?_)
  · repeat (first | exact .nil | refine .cons _ _ _ ?_ | refine .sl _ _ _ _ _ rfl ?_)
  show ADCall _ _ _ _ _ _
  refine .mk _ _ (zkg c.phase) rfl ?_
  show ABr (decide (c.phase = 0)) _ _
  refine ⟨fun h => ?_, fun h => ?_⟩
  · show ACall _ _ _ _ _ _
    refine za (zfy l 167 [] (·.live) (fun x _ => zhO x)) rfl ?_
    cases hf : l.findIdx? (·.live) with
    | none =>
      rw [zja hf, if_pos (by simpa using h)]
      show ABr _ _ _
      refine ⟨fun h => absurd h (by decide), fun _ => ?_⟩
      show ARet _ _ _
      exact ⟨[(16, 16)], [(16, .data .thread l)], [((zio t 0 (zcm c.phase))).tv], .cons _ _ _ _ (.agg _ _ (zb rfl)) .nil, .old 16 16 _ _ _ rfl rfl (.data_eq rfl) .nil, rfl, rfl, rfl⟩
    | some i =>
      obtain ⟨hi, _, _, e⟩ := ziX (c := c) (t := t) hf
      rw [e]
      show ABr (decide ((i : Int) ≥ 0)) _ _
      refine ⟨fun h' => ?_, fun h' => absurd h' (by simp)⟩
      repeat (show AOb _ _; refine ⟨(by first | exact hi | exact ⟨Int.natCast_nonneg _, Int.ofNat_lt.2 hi⟩ | exact ⟨(by decide : (0 : Int) ≤ 0), (by decide : (0 : Int) < 4)⟩), ?_⟩)
      show ARet _ _ _
      exact ⟨[(16, 16)], [(16, .data .thread l)], [({ zio t (l.getD i default).epoch (l.getD i default).stage with r0 := (l.getD i default).r0 }).tv], .cons _ _ _ _ (.agg _ _ (zb rfl)) .nil, .old 16 16 _ _ _ rfl rfl (.data_eq rfl) .nil, rfl, rfl, rfl⟩
  · show ACall _ _ _ _ _ _
    refine za (zfy l 167 [] (·.live) (fun x _ => zhO x)) rfl ?_
    cases hf : l.findIdx? (·.live) with
    | none =>
      rw [zja hf, if_neg (by simpa using h)]
      show ABr _ _ _
      refine ⟨fun h => absurd h (by decide), fun _ => ?_⟩
      show ARet _ _ _
      exact ⟨[(16, 16)], [(16, .data .thread l)], [((zio t c.epoch (zcm c.phase))).tv], .cons _ _ _ _ (.agg _ _ (zb rfl)) .nil, .old 16 16 _ _ _ rfl rfl (.data_eq rfl) .nil, rfl, rfl, rfl⟩
    | some i =>
      obtain ⟨hi, _, _, e⟩ := ziX (c := c) (t := t) hf
      rw [e]
      show ABr (decide ((i : Int) ≥ 0)) _ _
      refine ⟨fun h' => ?_, fun h' => absurd h' (by simp)⟩
      repeat (show AOb _ _; refine ⟨(by first | exact hi | exact ⟨Int.natCast_nonneg _, Int.ofNat_lt.2 hi⟩ | exact ⟨(by decide : (0 : Int) ≤ 0), (by decide : (0 : Int) < 4)⟩), ?_⟩)
      show ARet _ _ _
      exact ⟨[(16, 16)], [(16, .data .thread l)], [({ zio t (l.getD i default).epoch (l.getD i default).stage with r0 := (l.getD i default).r0 }).tv], .cons _ _ _ _ (.agg _ _ (zb rfl)) .nil, .old 16 16 _ _ _ rfl rfl (.data_eq rfl) .nil, rfl, rfl, rfl⟩
theorem zpO (w : Wd) (n : Int) (hF : w.Fit) : Spec X 78 (rnH w) [.c (.ptr 16 0 0), .int n] (fun H r => H = rnH (beginW w n) ∧ r = .int (beginWE w n)) := by
  refine zd X_ok Tryz.f78 (by kernel_rfl) (by kernel_rfl) (by kernel_rfl) fun hb hH => ⟨rfl, ?_⟩
  obtain ⟨hs, hw, hl, hth, hfl, hlog⟩ := hF
  show ACall _ _ _ _ _ _
  refine za (zog w n) rfl ?_
  cases hi : ze3 w n with
  | false =>
    have e1 : beginW w n = w := by unfold beginW; rw [if_pos hi]
    have e2 : beginWE w n = 3 := by unfold beginWE; rw [if_pos hi]
    rw [e1, e2]
    show ABr _ _ _
    refine ⟨fun _ => ?_, fun h => absurd h (by decide)⟩
    show ARet _ _ _
    exact ⟨[(16, 16), (17, 17), (18, 18)], rnH (w), [.int (3)], .cons _ _ _ _ .same .nil, .old 16 16 _ _ _ rfl rfl (.vars _ _ (by repeat (first | exact .nil | refine .cons _ _ _ _ (.d _) ?_ | refine .cons _ _ _ _ (.own _ _ rfl) ?_))) (.old 17 17 _ _ _ rfl rfl (.data_eq rfl) (.old 18 18 _ _ _ rfl rfl (.data_eq rfl) .nil)), rfl, rfl, rfl⟩
  | true =>
    have hr : 0 ≤ n ∧ n < (w.t.length : Int) := of_decide_eq_true hi
    have hlt : n.toNat < w.t.length := by omega
    show ABr _ _ _
    refine ⟨fun h => absurd h (by decide), fun _ => ?_⟩
    show AOb _ _
    refine ⟨by exact hr, ?_⟩
    show AOb _ _
    refine ⟨by exact hlt, ?_⟩
    cases hlv : (thW w n).live with
    | true =>
      have e0 : zd3 w n = true := by unfold zd3; rw [hlv]; rfl
      have e1 : beginW w n = w := by unfold beginW; rw [if_neg (by rw [hi]; decide), if_pos e0]
      have e2 : beginWE w n = 4 := by unfold beginWE; rw [if_neg (by rw [hi]; decide), if_pos e0]
      rw [e1, e2]
      show ABr (thW w n).live _ _
      rw [hlv]
      show ABr _ _ _
      refine ⟨fun _ => ?_, fun h => absurd h (by decide)⟩
      show ABr (thW w n).live _ _
      rw [hlv]
      show ABr _ _ _
      refine ⟨fun _ => ?_, fun h => absurd h (by decide)⟩
      show ARet _ _ _
      exact ⟨[(16, 16), (17, 17), (18, 18)], rnH (w), [.int (4)], .cons _ _ _ _ .same .nil, .old 16 16 _ _ _ rfl rfl (.vars _ _ (by repeat (first | exact .nil | refine .cons _ _ _ _ (.d _) ?_ | refine .cons _ _ _ _ (.own _ _ rfl) ?_))) (.old 17 17 _ _ _ rfl rfl (.data_eq rfl) (.old 18 18 _ _ _ rfl rfl (.data_eq rfl) .nil)), rfl, rfl, rfl⟩
    | false =>
      show ABr (thW w n).live _ _
      rw [hlv]
      show ABr _ _ _
      refine ⟨fun h => absurd h (by decide), fun _ => ?_⟩
      show AOb _ _
      refine ⟨by exact hr, ?_⟩
      show AOb _ _
      refine ⟨by exact hlt, ?_⟩
      show ABr (((thW w n).ops.length : Int) == 0) _ _
      by_cases ho : (thW w n).ops.length = 0
      · have e0 : zd3 w n = true := by unfold zd3; rw [hlv, decide_eq_true ho]; rfl
        have e1 : beginW w n = w := by unfold beginW; rw [if_neg (by rw [hi]; decide), if_pos e0]
        have e2 : beginWE w n = 4 := by unfold beginWE; rw [if_neg (by rw [hi]; decide), if_pos e0]
        rw [e1, e2, show (((thW w n).ops.length : Int) == 0) = true by rw [ho]; rfl]
        show ABr _ _ _
        refine ⟨fun _ => ?_, fun h => absurd h (by decide)⟩
        show ARet _ _ _
        exact ⟨[(16, 16), (17, 17), (18, 18)], rnH (w), [.int (4)], .cons _ _ _ _ .same .nil, .old 16 16 _ _ _ rfl rfl (.vars _ _ (by repeat (first | exact .nil | refine .cons _ _ _ _ (.d _) ?_ | refine .cons _ _ _ _ (.own _ _ rfl) ?_))) (.old 17 17 _ _ _ rfl rfl (.data_eq rfl) (.old 18 18 _ _ _ rfl rfl (.data_eq rfl) .nil)), rfl, rfl, rfl⟩
      · have e0 : zd3 w n = false := by unfold zd3; rw [hlv, decide_eq_false ho]; rfl
        have e1 : beginW w n = { w with t := w.t.set n.toNat (beginT w.c (thW w n) w.t) } := by unfold beginW; rw [if_neg (by rw [hi]; decide), if_neg (by rw [e0]; decide)]
        have e2 : beginWE w n = 0 := by unfold beginWE; rw [if_neg (by rw [hi]; decide), if_neg (by rw [e0]; decide)]
        rw [e1, e2, show (((thW w n).ops.length : Int) == 0) = false by rw [beq_eq_false_iff_ne]; omega]
        show ABr _ _ _
        refine ⟨fun h => absurd h (by decide), fun _ => ?_⟩
        show AOb _ _
        refine ⟨by exact hr, ?_⟩
        show AOb _ _
        refine ⟨by exact hlt, ?_⟩
        show ADCall _ _ _ _ _ _
        refine .any ((beginT w.c (thW w n) w.t).tv) [(17, .data .thread w.t)] (.hand [(17, 16)] [(16, .data .thread w.t)] [w.c.tv, (thW w n).tv, .c (.own 16)] _ (.cons _ _ _ _ (.agg _ _ (zb rfl)) (.cons _ _ _ _ (.agg _ _ (zb rfl)) (.cons _ _ _ _ (.c _ _ (.own _ _ rfl)) .nil))) (.old 16 17 _ _ _ rfl rfl (.data_eq rfl) .nil) rfl (znP w.c (thW w n) w.t (hth _ (zdj hi)).1) ?_) ?_
        · rintro H r ⟨rfl, rfl⟩ _ _
          exact ⟨rfl, .inl rfl, rfl, rfl⟩
        generalize beginT w.c (thW w n) w.t = u
        show AOb _ _
        refine ⟨by exact hr, ?_⟩
        show AOb _ _
        refine ⟨by exact hlt, ?_⟩
        show ARet _ _ _
        exact ⟨[(16, 16), (17, 17), (18, 18)], rnH ({ w with t := w.t.set n.toNat u }), [.int (0)], .cons _ _ _ _ .same .nil, .old 16 16 _ _ _ rfl rfl (.vars _ _ (by repeat (first | exact .nil | refine .cons _ _ _ _ (.d _) ?_ | refine .cons _ _ _ _ (.own _ _ rfl) ?_))) (.old 17 17 _ _ _ rfl rfl (.data_eq rfl) (.old 18 18 _ _ _ rfl rfl (.data_eq rfl) .nil)), rfl, rfl, rfl⟩
end Go.Abs
namespace Go.Abs
open Go.Proofs Go.Proofs.YtlankjlnnimdoaaGreatDoor
set_option maxRecDepth 8000
theorem zoM {g:Hp} {t:Thread} {r:Int} (h:zdh g t r=0):0≤zen g t r∧zen g t r≤2000∧zef g t r≤63:=by
 unfold zdh at h
 unfold zen zef
 by_cases h1:0≤r∧r≤3
 ·rw [if_pos h1] at h ⊢
  by_cases h2:headE g (t.reg r)=0
  ·rw [if_pos h1,if_pos h2,if_pos h2]
   obtain ⟨_,_,_,a1,a2⟩:=zcA h2
   obtain ⟨hm,_,_⟩:=zV h2
   obtain ⟨_,_,hwl,_,_,h64⟩:=zr (zM hm)
   have:=(zlK (zhD h2).1).1.2
   omega
  ·rw [if_neg h2] at h;cases h
 ·rw [if_neg h1] at h;cases h
set_option maxHeartbeats 4000000 in
set_option maxRecDepth 60000 in
theorem zbK (g:Hp) (c:Col) (t:Thread) (hs:g.small) (hw:c.work.length≤most) (ht:t.ok):Spec X 146 [] [g.tv,c.tv,t.tv] (Ret [(0,.vars (muV ⟨g,c,t,Res.zero,false⟩))] (.c (.ptr 0 0 0))):=by
 refine zd X_ok Tryz.f146 (by kernel_rfl) (by kernel_rfl) (by kernel_rfl) fun hb hH=>⟨rfl,?_⟩
 obtain ⟨h1,h2,h3,h4,h5,h6⟩:=hs
 obtain ⟨t1,t2,t3,t4⟩:=ht
 show ADCall ..
 refine .mk _ _ (ze g.w h1) rfl ?_
 show ADCall ..
 refine .mk _ _ (zW g.pages h2) rfl ?_
 show ADCall ..
 refine .mk _ _ (zaf g.cards h3) rfl ?_
 show ADCall ..
 refine .mk _ _ (ze c.work hw) rfl ?_
 show ADCall ..
 refine .mk _ _ (zbY t.ops t1) rfl ?_
 show ∃ n,_
 refine ⟨4,?_⟩
 show ALoop ..
 refine .next ?_
 show ABr ..
 refine ⟨fun _=>?_,fun h=>absurd h (by decide)⟩
 show AOb ..
 refine ⟨by decide,?_⟩
 show ADCall ..
 refine .mk _ _ (ze g.free.l0 h4) rfl ?_
 show AOb ..
 refine ⟨by decide,?_⟩
 show ADCall ..
 refine .mk _ _ (ze t.cache.l0 t2) rfl ?_
 show AOb ..
 refine ⟨by decide,?_⟩
 show AOb ..
 refine ⟨by decide,?_⟩
 show ALoop ..
 refine .next ?_
 show ABr ..
 refine ⟨fun _=>?_,fun h=>absurd h (by decide)⟩
 show AOb ..
 refine ⟨by decide,?_⟩
 show ADCall ..
 refine .mk _ _ (ze g.free.l1 h5) rfl ?_
 show AOb ..
 refine ⟨by decide,?_⟩
 show ADCall ..
 refine .mk _ _ (ze t.cache.l1 t3) rfl ?_
 show AOb ..
 refine ⟨by decide,?_⟩
 show AOb ..
 refine ⟨by decide,?_⟩
 show ALoop ..
 refine .next ?_
 show ABr ..
 refine ⟨fun _=>?_,fun h=>absurd h (by decide)⟩
 show AOb ..
 refine ⟨by decide,?_⟩
 show ADCall ..
 refine .mk _ _ (ze g.free.l2 h6) rfl ?_
 show AOb ..
 refine ⟨by decide,?_⟩
 show ADCall ..
 refine .mk _ _ (ze t.cache.l2 t4) rfl ?_
 show AOb ..
 refine ⟨by decide,?_⟩
 show AOb ..
 refine ⟨by decide,?_⟩
 show ALoop ..
 refine .next ?_
 show ABr ..
 refine ⟨fun h=>absurd h (by decide),fun _=>?_⟩
 show ARet ..
 exact ⟨[(_,0)],[(0,.vars (muV ⟨g,c,t,Res.zero,false⟩))],[.c (.ptr 0 0 0)],.cons _ _ _ _ (.c _ _ (.ptr1 _ _ _ _)) .nil,.old 0 _ _ _ _ rfl rfl (.vars _ _ (zb rfl)) .nil,rfl,rfl,rfl⟩
theorem zbL (g : Hp) (t : Thread) (hlm : (zm (zdV g [t.cache])).length ≤ most) : Spec X 147 [] [g.tv, t.tv] (Ret [] (.bo (zgC g t))) := by
  refine Spec.fz (zd zjt Tryz.f147 (by kernel_rfl) (by kernel_rfl) (by kernel_rfl) fun hb hH => ⟨rfl, ?_⟩)
  unfold zgC
  show ACall _ _ _ _ _ _
  refine za ((zjS t).uz) rfl ?_
  have ec : (bif bif decide t.mayT then t.live else false then decide ((t.ops.length : Int) > 0) else false) = (decide t.mayT && (t.live && decide (0 < t.ops.length))) := by
    have e : decide ((t.ops.length : Int) > 0) = decide (0 < t.ops.length) := by rw [decide_eq_decide]; omega
    rw [e]
    cases decide t.mayT <;> cases t.live <;> rfl
  show AIf ((bif bif decide t.mayT then t.live else false then decide ((t.ops.length : Int) > 0) else false) = true ∧ True) _ _
  rw [ec]
  cases hb : (decide t.mayT && (t.live && decide (0 < t.ops.length))) with
  | false =>
    show AIf _ _ _
    refine ⟨fun h => absurd h.1 (by decide), fun _ => ?_⟩
    show AOb _ _
    refine ⟨by exact ec.trans hb, ?_⟩
    show ARet _ _ _
    refine zw (x := false) ?_ ⟨rfl, rfl⟩
    rw [← Bool.and_assoc, ← Bool.and_assoc, Bool.and_assoc (decide _), hb]
    rfl
  | true =>
    show AIf _ _ _
    refine ⟨fun _ => ?_, fun h => absurd ⟨(by rfl), trivial⟩ h⟩
    show ACall _ _ _ _ _ _
    refine za ((zdN g [t.cache] hlm (by unfold most; simp)).uz) rfl ?_
    show ARet _ _ _
    refine zw (x := zz g [t.cache]) ?_ ⟨rfl, rfl⟩
    rw [← Bool.and_assoc, ← Bool.and_assoc, Bool.and_assoc (decide _), hb]
    rfl
theorem za2 (m:Mu) (h:0 < m.t.ops.length):Spec X 157 [] [.c (.d (.rp m.cells))] (Ret [] (.dagg (EK.enc .op m.op))):=by
 refine zd X_ok Tryz.f157 (by kernel_rfl) (by kernel_rfl) (by kernel_rfl) fun hb hH=>⟨rfl,?_⟩
 show AOb ((0:Int)≤0∧(0:Int) < (m.t.ops.length:Int)) _
 refine ⟨by omega,?_⟩
 show ARet ..
 exact zi rfl ⟨rfl,rfl⟩
theorem zS (a b:Int):Spec X 189 [] [.c (.d (.sl .int [a,b]))] (Ret [] (.int (zJ a b))):=by
 refine zd X_ok Tryz.f189 (by kernel_rfl) (by kernel_rfl) (by kernel_rfl) fun hb hH=>⟨rfl,?_⟩
 show ∃ n,_
 refine ⟨4,?_⟩
 unfold zJ
 show ALoop ..
 refine .next ?_
 show ABr ..
 refine ⟨fun _=>?_,fun h=>absurd h (by show ¬ decide ((0:Int) < 2)=false;decide)⟩
 show AOb ..
 refine ⟨by show (0:Int)≤0∧(0:Int) < 2;decide,?_⟩
 show ABr (a != 0) _ _
 by_cases h1:a≠0
 ·rw [if_pos h1,show (a != 0)=true by simpa using h1]
  show ABr ..
  refine ⟨fun _=>?_,fun h=>absurd h (by decide)⟩
  show ARet ..
  exact zi rfl ⟨rfl,rfl⟩
 ·rw [if_neg h1,show (a != 0)=false by simpa using h1]
  show ABr ..
  refine ⟨fun h=>absurd h (by decide),fun _=>?_⟩
  show ALoop ..
  refine .next ?_
  show ABr ..
  refine ⟨fun _=>?_,fun h=>absurd h (by show ¬ decide ((1:Int) < 2)=false;decide)⟩
  show AOb ..
  refine ⟨by show (0:Int)≤1∧(1:Int) < 2;decide,?_⟩
  show ABr (b != 0) _ _
  by_cases h2:b≠0
  ·rw [show (b != 0)=true by simpa using h2]
   show ABr ..
   refine ⟨fun _=>?_,fun h=>absurd h (by decide)⟩
   show ARet ..
   exact zi rfl ⟨rfl,rfl⟩
  ·rw [show (b != 0)=false by simpa using h2]
   show ABr ..
   refine ⟨fun h=>absurd h (by decide),fun _=>?_⟩
   show ALoop ..
   refine .next ?_
   show ABr ..
   refine ⟨fun h=>absurd h (by show ¬ decide ((2:Int) < 2)=true;decide),fun _=>?_⟩
   show ARet ..
   refine zaR (x:=0) (by omega) ⟨rfl,rfl⟩
theorem zC (m:Mu) (r:Int):Spec X 190 [] [.c (.d (.rp m.cells)),.int r] (Ret [] (.int (zA r))):=by
 refine zd X_ok Tryz.f190 (by kernel_rfl) (by kernel_rfl) (by kernel_rfl) fun hb hH=>⟨rfl,?_⟩
 show ACall ..
 refine za (zlV m.t r) rfl ?_
 show ARet ..
 exact zi rfl ⟨rfl,rfl⟩
theorem zik (m:Mu) (r a:Int) (ht:m.t.ok):Spec X 188 [(16,.vars (muV m))] [.c (.ptr 16 0 0),.int r,.int a] (fun H r'=>H=[(16,.vars (muV (zc2 m r a)))]∧r' = .tup []):=by
 refine zd X_ok Tryz.f188 (by kernel_rfl) (by kernel_rfl) (by kernel_rfl) fun hb hH=>⟨rfl,?_⟩
 unfold zc2 zA
 by_cases h:0≤r∧r≤3
 ·rw [if_pos h,if_pos rfl]
  show ACall ..
  refine za (zuK m.t r a ht h) rfl ?_
  show ABr ..
  refine ⟨fun _=>?_,fun h=>absurd h (by decide)⟩
  show ARet ..
  exact ⟨[(16,16)],[(16,.vars (muV { m with t:=m.t.setReg r a }))],[],.nil,.old 16 16 _ _ _ rfl rfl (.vars _ _ (zb rfl)) .nil,rfl,rfl,rfl⟩
 ·rw [if_neg h,if_neg (by decide)]
  show ACall ..
  refine za (zvz m.t r a h) rfl ?_
  show ABr ..
  refine ⟨fun h=>absurd h (by decide),fun _=>?_⟩
  show ARet ..
  exact ⟨[(16,16)],[(16,.vars (muV m))],[],.nil,.old 16 16 _ _ _ rfl rfl (.vars _ _ (zb rfl)) .nil,rfl,rfl,rfl⟩
theorem zp5 (m : Mu) (n : Int) : Spec X 192 [] [.c (.d (.rp m.cells)), .int n] (Ret [] (zbG m n).tv) := by
  refine zd X_ok Tryz.f192 (by kernel_rfl) (by kernel_rfl) (by kernel_rfl) fun hb hH => ⟨rfl, ?_⟩
  show ADCall _ _ _ _ _ _
  refine .mk _ _ (zrw m.c m.t) rfl ?_
  unfold zbG ztR
  cases hb : decide (m.t.epoch = m.c.epoch ∧ m.t.stage = 3 ∧ m.c.phase ≠ 0) with
  | true =>
    rw [if_pos rfl]
    show ABr _ _ _
    refine ⟨fun _ => ?_, fun h => absurd h (by decide)⟩
    show ARet _ _ _
    exact zi rfl ⟨rfl, rfl⟩
  | false =>
    rw [if_neg (by decide)]
    show ABr _ _ _
    refine ⟨fun h => absurd h (by decide), fun _ => ?_⟩
    show ARet _ _ _
    exact zi rfl ⟨rfl, rfl⟩
theorem zd5 (m:Mu) (r f:Int) (hl:m.h.light):Spec X 193 [] [.c (.d (.rp m.cells)),.int r,.int f] (Ret [] (.tup [.int (zc6 m r f),.int (zdA m r f),.int (zaZ m r f)])):=by
 refine zd X_ok Tryz.f193 (by kernel_rfl) (by kernel_rfl) (by kernel_rfl) fun hb hH=>⟨rfl,?_⟩
 show ADCall ..
 refine .mk _ _ (zjb m.h m.t r hl) rfl ?_
 by_cases hE:zdh m.h m.t r=0
 ·show ABr (zdh m.h m.t r != 0) _ _
  rw [show (zdh m.h m.t r != 0)=false by rw [hE];rfl]
  show ABr ..
  refine ⟨fun h=>absurd h (by decide),fun _=>?_⟩
  show ABr (decide (f < 0)) _ _
  by_cases h1:f < 0
  ·obtain ⟨e1,e2,e3⟩:=zkE hE (.inl h1)
   rw [decide_eq_true h1,e1,e2,e3]
   show ABr ..
   refine ⟨fun _=>?_,fun h=>absurd h (by decide)⟩
   show ABr ..
   refine ⟨fun _=>?_,fun h=>absurd h (by decide)⟩
   show ARet ..
   exact zi rfl ⟨rfl,rfl⟩
  ·rw [decide_eq_false h1]
   show ABr ..
   refine ⟨fun h=>absurd h (by decide),fun _=>?_⟩
   show ABr (decide (f≥zef m.h m.t r)) _ _
   by_cases h2:zef m.h m.t r≤f
   ·obtain ⟨e1,e2,e3⟩:=zkE hE (.inr h2)
    rw [decide_eq_true (show f≥zef m.h m.t r from h2),e1,e2,e3]
    show ABr ..
    refine ⟨fun _=>?_,fun h=>absurd h (by decide)⟩
    show ARet ..
    exact zi rfl ⟨rfl,rfl⟩
   ·obtain ⟨e1,e2,e3⟩:=zrT hE (fun q=>q.elim h1 h2)
    rw [decide_eq_false (show ¬ f≥zef m.h m.t r from h2),e1,e2,e3]
    show ABr ..
    refine ⟨fun h=>absurd h (by decide),fun _=>?_⟩
    obtain ⟨k1,k2,k3⟩:=zoM hE
    have w1:IntKind.i64.wrap (zen m.h m.t r+1)=zen m.h m.t r+1:=zB (by omega) (by omega)
    have w2:IntKind.i64.wrap (IntKind.i64.wrap (zen m.h m.t r+1)+f)=zen m.h m.t r+1+f:=by rw [w1];exact zB (by omega) (by omega)
    show ARet ..
    exact ⟨[],[],[.int (zen m.h m.t r+1+f),.int (zen m.h m.t r),.int 0],.cons _ _ _ _ (.int_eq w2) (.cons _ _ _ _ .same (.cons _ _ _ _ .same .nil)),.nil,rfl,rfl,rfl⟩
 ·obtain ⟨e1,e2,e3⟩:=zrG hE f
  show ABr (zdh m.h m.t r != 0) _ _
  rw [e1,e2,e3,show (zdh m.h m.t r != 0)=true by simpa using hE]
  show ABr ..
  refine ⟨fun _=>?_,fun h=>absurd h (by decide)⟩
  show ARet ..
  exact zi rfl ⟨rfl,rfl⟩
theorem zgu (m:Mu) (e v:Int) (h:0 < m.t.ops.length):Spec X 201 [(16,.vars (muV m))] [.c (.ptr 16 0 0),.int e,.int v] (fun H r=>H=[(16,.vars (muV (zhQ m e v)))]∧r = .tup []):=by
 refine zd X_ok Tryz.f201 (by kernel_rfl) (by kernel_rfl) (by kernel_rfl) fun hb hH=>⟨rfl,?_⟩
 show ACall ..
 refine za (za2 m h) rfl ?_
 show ARet ..
 exact ⟨[(16,16)],[(16,.vars (muV (zhQ m e v)))],[],.nil,.old 16 16 _ _ _ rfl rfl (.vars _ _ (zb rfl)) .nil,rfl,rfl,rfl⟩
theorem zgU (m:Mu) (h:0 < m.t.ops.length):Spec X 203 [(16,.vars (muV m))] [.c (.ptr 16 0 0)] (fun H r=>H=[(16,.vars (muV (zkY m)))]∧r = .tup []):=by
 refine zd X_ok Tryz.f203 (by kernel_rfl) (by kernel_rfl) (by kernel_rfl) fun hb hH=>⟨rfl,?_⟩
 show AOb ((0:Int)≤1∧(1:Int)≤(m.t.ops.length:Int)) _
 refine ⟨by omega,?_⟩
 show ARet ..
 exact ⟨[(16,16)],[(16,.vars (muV (zkY m)))],[],.nil,.old 16 16 _ _ _ rfl rfl (.vars _ _ (zb rfl)) .nil,rfl,rfl,rfl⟩
theorem zu (m:Mu) (e v:Int) (h:0 < m.t.ops.length):Spec X 156 [(16,.vars (muV m))] [.c (.ptr 16 0 0),.int e,.int v] (fun H r=>H=[(16,.vars (muV (endM m e v)))]∧r = .tup []):=by
 refine zd X_ok Tryz.f156 (by kernel_rfl) (by kernel_rfl) (by kernel_rfl) fun hb hH=>⟨rfl,?_⟩
 show ACall ..
 refine .hand [(16,16)] [(16,.vars (muV m))] [.c (.ptr 16 0 0),.int e,.int v] _ (.cons _ _ _ _ (.c _ _ (.ptr _ _ _ _ rfl)) (.cons _ _ _ _ .same (.cons _ _ _ _ .same .nil))) (.old 16 16 _ _ _ rfl rfl (.vars _ _ (zb rfl)) .nil) rfl (zgu m e v h) ?_
 rintro H r ⟨rfl,rfl⟩ _ _
 refine ⟨rfl,.inl rfl,?_⟩
 show ACall ..
 refine .hand [(16,16)] [(16,.vars (muV (zhQ m e v)))] [.c (.ptr 16 0 0)] _ (.cons _ _ _ _ (.c _ _ (.ptr _ _ _ _ rfl)) .nil) (.old 16 16 _ _ _ rfl rfl (.vars _ _ (zb rfl)) .nil) rfl (zgU (zhQ m e v) h) ?_
 rintro H r ⟨rfl,rfl⟩ _ _
 refine ⟨rfl,.inl rfl,?_⟩
 show ARet ..
 exact ⟨[(16,16)],[(16,.vars (muV (endM m e v)))],[],.nil,.old 16 16 _ _ _ rfl rfl (.vars _ _ (zb rfl)) .nil,rfl,rfl,rfl⟩
end Go.Abs
namespace Go.Abs
open Go.Proofs Go.Proofs.YtlankjlnnimdoaaGreatDoor
set_option maxRecDepth 8000
theorem zhb (m:Mu) (r a:Int):(zc2 m r a).t.ops=m.t.ops:=by
 unfold zc2 Thread.setReg
 split
 ·split
  ·rfl
  ·split
   ·rfl
   ·split <;> rfl
 ·rfl
theorem zfZ {m:Mu} {r f:Int} (h:zaZ m r f=0):zbg m.h.w=true∧16≤zc6 m r f∧zc6 m r f < 16+m.h.w.length∧0≤zdA m r f∧zdA m r f≤2000∧headE m.h (m.t.reg r)=0∧0≤f∧f < (headH m.h (m.t.reg r)).n∧zc6 m r f=m.t.reg r+1+f:=by
 obtain ⟨h1,h2,h3,h4,h5⟩:=zt7 h
 obtain ⟨k1,k2,k3⟩:=zoM h1
 unfold zdh at h1
 by_cases hr:0≤r∧r≤3
 ·rw [if_pos hr] at h1
  by_cases hh:headE m.h (m.t.reg r)=0
  ·unfold zen at h4 h5 k1 k2
   unfold zef at h3
   rw [if_pos hr,if_pos hh] at h4 h5 k1 k2 h3
   obtain ⟨hm,hr2,_⟩:=zV hh
   obtain ⟨hmw,_⟩:=zr (zM hm)
   obtain ⟨⟨a1,a2⟩,_⟩:=ziC (f:=f+1) hh (by omega) (by omega)
   have ha16:=(zaQ (h:=m.h) hr2).1
   exact ⟨hmw,by omega,by omega,by omega,by omega,hh,h2,h3,h5⟩
  ·rw [if_neg hh] at h1;cases h1
 ·rw [if_neg hr] at h1;cases h1
set_option maxRecDepth 60000 in
set_option maxHeartbeats 4000000 in
theorem zmP (m:Mu) (hs:m.h.small) (ht:m.t.ok) (hco:m.t.cache.ok) (hlm:(zm (zdV m.h [m.t.cache])).length≤most) (h:0 < m.t.ops.length):Spec X 148 [(16,.vars (muV m))] [.c (.ptr 16 0 0)] (fun H r=>H=[(16,.vars (muV (createM m)))]∧r = .tup []):=by
 refine zd X_ok Tryz.f148 (by kernel_rfl) (by kernel_rfl) (by kernel_rfl) fun hb hH=>⟨rfl,?_⟩
 unfold createM
 show ACall ..
 refine za (za2 m h) rfl ?_
 show ABr (decide (m.t.pc > 0)) _ _
 by_cases h1:0 < m.t.pc
 ·rw [if_pos h1,decide_eq_true (show m.t.pc > 0 from h1)]
  show ABr ..
  refine ⟨fun _=>?_,fun h=>absurd h (by decide)⟩
  show ADCall ..
  refine .any (.tup []) [(16,.vars (muV (zc2 m m.op.a m.t.x)))] (.hand [(16,16)] [(16,.vars (muV m))] [.c (.ptr 16 0 0),.int m.op.a,.int m.t.x] _ (.cons _ _ _ _ (.c _ _ (.ptr _ _ _ _ rfl)) (.cons _ _ _ _ .same (.cons _ _ _ _ .same .nil))) (.old 16 16 _ _ _ rfl rfl (.vars _ _ (zb rfl)) .nil) rfl (zik m m.op.a m.t.x ht) ?_) ?_
  ·rintro H r ⟨rfl,rfl⟩ _ _
   exact ⟨rfl,.inl rfl,rfl,rfl⟩
  show ACall ..
  refine .hand [(16,16)] [(16,.vars (muV (zc2 m m.op.a m.t.x)))] [.c (.ptr 16 0 0),.int 0,.int 0] _ (.cons _ _ _ _ (.c _ _ (.ptr _ _ _ _ rfl)) (.cons _ _ _ _ .same (.cons _ _ _ _ .same .nil))) (.old 16 16 _ _ _ rfl rfl (.vars _ _ (zb rfl)) .nil) rfl (zu (zc2 m m.op.a m.t.x) 0 0 (by rw [zhb];exact h)) ?_
  rintro H r ⟨rfl,rfl⟩ _ _
  refine ⟨rfl,.inl rfl,?_⟩
  show ARet ..
  exact ⟨[(16,16)],[(16,.vars (muV (endM (zc2 m m.op.a m.t.x) 0 0)))],[],.nil,.old 16 16 _ _ _ rfl rfl (.vars _ _ (zb rfl)) .nil,rfl,rfl,rfl⟩
 ·rw [if_neg h1,decide_eq_false (show ¬ m.t.pc > 0 from h1)]
  show ABr ..
  refine ⟨fun h=>absurd h (by decide),fun _=>?_⟩
  show ACall ..
  refine za (zht m.op.b) rfl ?_
  show ACall ..
  refine za (zC m m.op.a) rfl ?_
  show ACall ..
  refine za (zS (zA m.op.a) (zaE m.op.b)) rfl ?_
  show ABr (zJ (zA m.op.a) (zaE m.op.b) != 0) _ _
  by_cases h2:zJ (zA m.op.a) (zaE m.op.b)≠0
  ·rw [if_pos h2,show (zJ (zA m.op.a) (zaE m.op.b) != 0)=true by simpa using h2]
   show ABr ..
   refine ⟨fun _=>?_,fun h=>absurd h (by decide)⟩
   show ACall ..
   refine .hand [(16,16)] [(16,.vars (muV m))] [.c (.ptr 16 0 0),.int (zJ (zA m.op.a) (zaE m.op.b)),.int 0] _ (.cons _ _ _ _ (.c _ _ (.ptr _ _ _ _ rfl)) (.cons _ _ _ _ .same (.cons _ _ _ _ .same .nil))) (.old 16 16 _ _ _ rfl rfl (.vars _ _ (zb rfl)) .nil) rfl (zu m (zJ (zA m.op.a) (zaE m.op.b)) 0 h) ?_
   rintro H r ⟨rfl,rfl⟩ _ _
   refine ⟨rfl,.inl rfl,?_⟩
   show ARet ..
   exact ⟨[(16,16)],[(16,.vars (muV (endM m (zJ (zA m.op.a) (zaE m.op.b)) 0)))],[],.nil,.old 16 16 _ _ _ rfl rfl (.vars _ _ (zb rfl)) .nil,rfl,rfl,rfl⟩
  ·rw [if_neg h2,show (zJ (zA m.op.a) (zaE m.op.b) != 0)=false by simpa using h2]
   show ABr ..
   refine ⟨fun h=>absurd h (by decide),fun _=>?_⟩
   show ADCall ..
   refine .mk _ _ (zp5 m m.op.b) rfl ?_
   show ADCall ..
   refine .mk _ _ ((zsK m.h m.t.cache (zbG m m.op.b) hs hco hlm).uz) rfl ?_
   show ABr (zaD m.h m.t.cache (zbG m m.op.b) != 0) _ _
   by_cases h3:zaD m.h m.t.cache (zbG m m.op.b)≠0
   ·rw [if_pos h3,show (zaD m.h m.t.cache (zbG m m.op.b) != 0)=true by simpa using h3]
    show ABr ..
    refine ⟨fun _=>?_,fun h=>absurd h (by decide)⟩
    show ACall ..
    refine .hand [(16,16)] [(16,.vars (muV m))] [.c (.ptr 16 0 0),.int (zaD m.h m.t.cache (zbG m m.op.b)),.int 0] _ (.cons _ _ _ _ (.c _ _ (.ptr _ _ _ _ rfl)) (.cons _ _ _ _ .same (.cons _ _ _ _ .same .nil))) (.old 16 16 _ _ _ rfl rfl (.vars _ _ (zb rfl)) .nil) rfl (zu m (zaD m.h m.t.cache (zbG m m.op.b)) 0 h) ?_
    rintro H r ⟨rfl,rfl⟩ _ _
    refine ⟨rfl,.inl rfl,?_⟩
    show ARet ..
    exact ⟨[(16,16)],[(16,.vars (muV (endM m (zaD m.h m.t.cache (zbG m m.op.b)) 0)))],[],.nil,.old 16 16 _ _ _ rfl rfl (.vars _ _ (zb rfl)) .nil,rfl,rfl,rfl⟩
   ·rw [if_neg h3,show (zaD m.h m.t.cache (zbG m m.op.b) != 0)=false by simpa using h3]
    show ABr ..
    refine ⟨fun h=>absurd h (by decide),fun _=>?_⟩
    show ARet ..
    exact ⟨[(16,16)],[(16,.vars (muV ({ m with h:=zfk m.h m.t.cache (zbG m m.op.b),t:={ m.t with cache:=takeC m.h m.t.cache (zbG m m.op.b),x:=zhK m.h m.t.cache (zbG m m.op.b),pc:=1 } })))],[],.nil,.old 16 16 _ _ _ rfl rfl (.vars _ _ (zb rfl)) .nil,rfl,rfl,rfl⟩
set_option maxRecDepth 60000 in
theorem zqT (m:Mu) (hl:m.h.light) (ht:m.t.ok) (h:0 < m.t.ops.length):Spec X 149 [(16,.vars (muV m))] [.c (.ptr 16 0 0)] (fun H r=>H=[(16,.vars (muV (loadM m)))]∧r = .tup []):=by
 refine zd X_ok Tryz.f149 (by kernel_rfl) (by kernel_rfl) (by kernel_rfl) fun hb hH=>⟨rfl,?_⟩
 unfold loadM
 show ACall ..
 refine za (za2 m h) rfl ?_
 show ACall ..
 refine za (zC m m.op.a) rfl ?_
 show ABr (zA m.op.a != 0) _ _
 by_cases h1:zA m.op.a≠0
 ·rw [if_pos h1,show (zA m.op.a != 0)=true by simpa using h1]
  show ABr ..
  refine ⟨fun _=>?_,fun h=>absurd h (by decide)⟩
  show ACall ..
  refine .hand [(16,16)] [(16,.vars (muV m))] [.c (.ptr 16 0 0),.int (zA m.op.a),.int 0] _ (.cons _ _ _ _ (.c _ _ (.ptr _ _ _ _ rfl)) (.cons _ _ _ _ .same (.cons _ _ _ _ .same .nil))) (.old 16 16 _ _ _ rfl rfl (.vars _ _ (zb rfl)) .nil) rfl (zu m (zA m.op.a) 0 h) ?_
  rintro H r ⟨rfl,rfl⟩ _ _
  refine ⟨rfl,.inl rfl,?_⟩
  show ARet ..
  exact ⟨[(16,16)],[(16,.vars (muV (endM m (zA m.op.a) 0)))],[],.nil,.old 16 16 _ _ _ rfl rfl (.vars _ _ (zb rfl)) .nil,rfl,rfl,rfl⟩
 ·rw [if_neg h1,show (zA m.op.a != 0)=false by simpa using h1]
  show ABr ..
  refine ⟨fun h=>absurd h (by decide),fun _=>?_⟩
  show ACall ..
  refine za (zd5 m m.op.b m.op.c hl) rfl ?_
  show ABr (zaZ m m.op.b m.op.c != 0) _ _
  by_cases h2:zaZ m m.op.b m.op.c≠0
  ·rw [if_pos h2,show (zaZ m m.op.b m.op.c != 0)=true by simpa using h2]
   show ABr ..
   refine ⟨fun _=>?_,fun h=>absurd h (by decide)⟩
   show ACall ..
   refine .hand [(16,16)] [(16,.vars (muV m))] [.c (.ptr 16 0 0),.int (zaZ m m.op.b m.op.c),.int 0] _ (.cons _ _ _ _ (.c _ _ (.ptr _ _ _ _ rfl)) (.cons _ _ _ _ .same (.cons _ _ _ _ .same .nil))) (.old 16 16 _ _ _ rfl rfl (.vars _ _ (zb rfl)) .nil) rfl (zu m (zaZ m m.op.b m.op.c) 0 h) ?_
   rintro H r ⟨rfl,rfl⟩ _ _
   refine ⟨rfl,.inl rfl,?_⟩
   show ARet ..
   exact ⟨[(16,16)],[(16,.vars (muV (endM m (zaZ m m.op.b m.op.c) 0)))],[],.nil,.old 16 16 _ _ _ rfl rfl (.vars _ _ (zb rfl)) .nil,rfl,rfl,rfl⟩
  ·rw [if_neg h2,show (zaZ m m.op.b m.op.c != 0)=false by simpa using h2]
   show ABr ..
   refine ⟨fun h=>absurd h (by decide),fun _=>?_⟩
   obtain ⟨w1,w2,w3,_⟩:=zfZ (Classical.not_not.1 h2)
   show ACall ..
   refine za (zfR m.h.w (zc6 m m.op.b m.op.c) w1 ⟨w2,w3⟩) rfl ?_
   show ACall ..
   refine .hand [(16,16)] [(16,.vars (muV m))] [.c (.ptr 16 0 0),.int m.op.a,.int (zd8 m)] _ (.cons _ _ _ _ (.c _ _ (.ptr _ _ _ _ rfl)) (.cons _ _ _ _ .same (.cons _ _ _ _ .same .nil))) (.old 16 16 _ _ _ rfl rfl (.vars _ _ (zb rfl)) .nil) rfl (zik m m.op.a (zd8 m) ht) ?_
   rintro H r ⟨rfl,rfl⟩ _ _
   refine ⟨rfl,.inl rfl,?_⟩
   show ABr (zd8 m != 0) _ _
   by_cases h3:zd8 m≠0
   ·rw [if_pos h3,show (zd8 m != 0)=true by simpa using h3]
    show ABr ..
    refine ⟨fun _=>?_,fun h=>absurd h (by decide)⟩
    show ACall ..
    refine .hand [(16,16)] [(16,.vars (muV (zc2 m m.op.a (zd8 m))))] [.c (.ptr 16 0 0),.int 0,.int 1] _ (.cons _ _ _ _ (.c _ _ (.ptr _ _ _ _ rfl)) (.cons _ _ _ _ .same (.cons _ _ _ _ .same .nil))) (.old 16 16 _ _ _ rfl rfl (.vars _ _ (zb rfl)) .nil) rfl (zu (zc2 m m.op.a (zd8 m)) 0 1 (by rw [zhb];exact h)) ?_
    rintro H r ⟨rfl,rfl⟩ _ _
    refine ⟨rfl,.inl rfl,?_⟩
    show ARet ..
    exact ⟨[(16,16)],[(16,.vars (muV (endM (zc2 m m.op.a (zd8 m)) 0 1)))],[],.nil,.old 16 16 _ _ _ rfl rfl (.vars _ _ (zb rfl)) .nil,rfl,rfl,rfl⟩
   ·rw [if_neg h3,show (zd8 m != 0)=false by simpa using h3]
    show ABr ..
    refine ⟨fun h=>absurd h (by decide),fun _=>?_⟩
    show ACall ..
    refine .hand [(16,16)] [(16,.vars (muV (zc2 m m.op.a (zd8 m))))] [.c (.ptr 16 0 0),.int 0,.int 0] _ (.cons _ _ _ _ (.c _ _ (.ptr _ _ _ _ rfl)) (.cons _ _ _ _ .same (.cons _ _ _ _ .same .nil))) (.old 16 16 _ _ _ rfl rfl (.vars _ _ (zb rfl)) .nil) rfl (zu (zc2 m m.op.a (zd8 m)) 0 0 (by rw [zhb];exact h)) ?_
    rintro H r ⟨rfl,rfl⟩ _ _
    refine ⟨rfl,.inl rfl,?_⟩
    show ARet ..
    exact ⟨[(16,16)],[(16,.vars (muV (endM (zc2 m m.op.a (zd8 m)) 0 0)))],[],.nil,.old 16 16 _ _ _ rfl rfl (.vars _ _ (zb rfl)) .nil,rfl,rfl,rfl⟩
end Go.Abs
namespace Go.Abs
open Go.Proofs Go.Proofs.YtlankjlnnimdoaaGreatDoor
set_option maxRecDepth 60000
theorem zi8 {a b:Int} (h:¬ zJ a b≠0):a=0∧b=0:=by
 unfold zJ at h
 split at h
 ·rename_i h1;exact absurd h1 h
 ·rename_i h1;exact ⟨Classical.not_not.1 h1,Classical.not_not.1 h⟩
theorem zoH (m:Mu) (hl:m.h.light) (h:0 < m.t.ops.length):Spec X 195 [(16,.vars (muV m))] [.c (.ptr 16 0 0)] (fun H r=>H=[(16,.vars (muV (zia m)))]∧r = .tup []):=by
 refine zd X_ok Tryz.f195 (by kernel_rfl) (by kernel_rfl) (by kernel_rfl) fun hb hH=>⟨rfl,?_⟩
 unfold zia
 show ACall ..
 refine za (za2 m h) rfl ?_
 show ACall ..
 refine za (zd5 m m.op.a m.op.b hl) rfl ?_
 show ACall ..
 refine za (zC m m.op.c) rfl ?_
 show ACall ..
 refine za (zS (zaZ m m.op.a m.op.b) (zA m.op.c)) rfl ?_
 show ABr (zJ (zaZ m m.op.a m.op.b) (zA m.op.c) != 0) _ _
 by_cases h1:zJ (zaZ m m.op.a m.op.b) (zA m.op.c)≠0
 ·rw [if_pos h1,show (zJ (zaZ m m.op.a m.op.b) (zA m.op.c) != 0)=true by simpa using h1]
  show ABr ..
  refine ⟨fun _=>?_,fun h=>absurd h (by decide)⟩
  show ACall ..
  refine .hand [(16,16)] [(16,.vars (muV m))] [.c (.ptr 16 0 0),.int (zJ (zaZ m m.op.a m.op.b) (zA m.op.c)),.int 0] _ (.cons _ _ _ _ (.c _ _ (.ptr _ _ _ _ rfl)) (.cons _ _ _ _ .same (.cons _ _ _ _ .same .nil))) (.old 16 16 _ _ _ rfl rfl (.vars _ _ (zb rfl)) .nil) rfl (zu m (zJ (zaZ m m.op.a m.op.b) (zA m.op.c)) 0 h) ?_
  rintro H r ⟨rfl,rfl⟩ _ _
  refine ⟨rfl,.inl rfl,?_⟩
  show ARet ..
  exact ⟨[(16,16)],[(16,.vars (muV (endM m (zJ (zaZ m m.op.a m.op.b) (zA m.op.c)) 0)))],[],.nil,.old 16 16 _ _ _ rfl rfl (.vars _ _ (zb rfl)) .nil,rfl,rfl,rfl⟩
 ·rw [if_neg h1,show (zJ (zaZ m m.op.a m.op.b) (zA m.op.c) != 0)=false by simpa using h1]
  show ABr ..
  refine ⟨fun h=>absurd h (by decide),fun _=>?_⟩
  obtain ⟨w1,w2,w3,_⟩:=zfZ (zi8 h1).1
  show ACall ..
  refine za (zfR m.h.w (zc6 m m.op.a m.op.b) w1 ⟨w2,w3⟩) rfl ?_
  show ADCall ..
  refine .mk _ _ (zlV { m.t with x:=zh m.h (zc6 m m.op.a m.op.b) } m.op.c) rfl ?_
  show ARet ..
  exact ⟨[(16,16)],[(16,.vars (muV ({ m with t:={ m.t with x:=zh m.h (zc6 m m.op.a m.op.b),y:=zvt m.t m.op.c,pc:=1 } })))],[],.nil,.old 16 16 _ _ _ rfl rfl (.vars _ _ (zb rfl)) .nil,rfl,rfl,rfl⟩
theorem ziY (m : Mu) (a : Int) (hl : m.h.light) (hs : m.h.small) (hw : m.c.work.length < most) (hp : 0 ≤ m.t.pc ∧ m.t.pc ≤ 4) : Spec X 237 [(16, .vars (muV m))] [.c (.ptr 16 0 0), .int a] (fun H r => H = [(16, .vars (muV (zc7 m a)))] ∧ r = .tup []) := by
  refine zd X_ok Tryz.f237 (by kernel_rfl) (by kernel_rfl) (by kernel_rfl) fun hb hH => ⟨rfl, ?_⟩
  unfold zc7 zgN
  have hwr : IntKind.i64.wrap (m.t.pc + 1) = m.t.pc + 1 := zB (by omega) (by omega)
  show ADCall _ _ _ _ _ _
  refine .mk _ _ (zqN m.c m.t) rfl ?_
  cases hb : decide (m.t.epoch = m.c.epoch ∧ 1 ≤ m.c.phase ∧ m.c.phase ≤ 5) with
  | true =>
    rw [if_pos rfl, if_pos rfl]
    show ABr _ _ _
    refine ⟨fun _ => ?_, fun h => absurd h (by decide)⟩
    show ADCall _ _ _ _ _ _
    refine .mk _ _ (zb2 m.h m.c a hl hs hw) rfl ?_
    show ARet _ _ _
    rw [hwr]
    exact ⟨[(16, 16)], [(16, .vars (muV { m with h := zaa m.h m.c a, c := zae m.h m.c a, t := { m.t with pc := m.t.pc + 1 } }))], [], .nil, .old 16 16 _ _ _ rfl rfl (.vars _ _ (zb rfl)) .nil, rfl, rfl, rfl⟩
  | false =>
    rw [if_neg (by decide), if_neg (by decide)]
    show ABr _ _ _
    refine ⟨fun h => absurd h (by decide), fun _ => ?_⟩
    show ARet _ _ _
    rw [hwr]
    exact ⟨[(16, 16)], [(16, .vars (muV { m with t := { m.t with pc := m.t.pc + 1 } }))], [], .nil, .old 16 16 _ _ _ rfl rfl (.vars _ _ (zb rfl)) .nil, rfl, rfl, rfl⟩
theorem zs9 (m:Mu) (hl:m.h.light) (hs:m.h.small) (hw:m.c.work.length < most) (hp:0≤m.t.pc∧m.t.pc≤4):Spec X 196 [(16,.vars (muV m))] [.c (.ptr 16 0 0)] (fun H r=>H=[(16,.vars (muV (zc7 m m.t.x)))]∧r = .tup []):=by
 refine zd X_ok Tryz.f196 (by kernel_rfl) (by kernel_rfl) (by kernel_rfl) fun hb hH=>⟨rfl,?_⟩
 show ACall ..
 refine .hand [(16,16)] [(16,.vars (muV m))] [.c (.ptr 16 0 0),.int m.t.x] _ (.cons _ _ _ _ (.c _ _ (.ptr _ _ _ _ rfl)) (.cons _ _ _ _ .same .nil)) (.old 16 16 _ _ _ rfl rfl (.vars _ _ (zb rfl)) .nil) rfl (ziY m m.t.x hl hs hw hp) ?_
 rintro H r ⟨rfl,rfl⟩ _ _
 refine ⟨rfl,.inl rfl,?_⟩
 show ARet ..
 exact ⟨[(16,16)],[(16,.vars (muV (zc7 m m.t.x)))],[],.nil,.old 16 16 _ _ _ rfl rfl (.vars _ _ (zb rfl)) .nil,rfl,rfl,rfl⟩
theorem zn8 (m:Mu) (hl:m.h.light) (hs:m.h.small) (hw:m.c.work.length < most) (hp:0≤m.t.pc∧m.t.pc≤4):Spec X 197 [(16,.vars (muV m))] [.c (.ptr 16 0 0)] (fun H r=>H=[(16,.vars (muV (zc7 m m.t.y)))]∧r = .tup []):=by
 refine zd X_ok Tryz.f197 (by kernel_rfl) (by kernel_rfl) (by kernel_rfl) fun hb hH=>⟨rfl,?_⟩
 show ACall ..
 refine .hand [(16,16)] [(16,.vars (muV m))] [.c (.ptr 16 0 0),.int m.t.y] _ (.cons _ _ _ _ (.c _ _ (.ptr _ _ _ _ rfl)) (.cons _ _ _ _ .same .nil)) (.old 16 16 _ _ _ rfl rfl (.vars _ _ (zb rfl)) .nil) rfl (ziY m m.t.y hl hs hw hp) ?_
 rintro H r ⟨rfl,rfl⟩ _ _
 refine ⟨rfl,.inl rfl,?_⟩
 show ARet ..
 exact ⟨[(16,16)],[(16,.vars (muV (zc7 m m.t.y)))],[],.nil,.old 16 16 _ _ _ rfl rfl (.vars _ _ (zb rfl)) .nil,rfl,rfl,rfl⟩
theorem znY (m:Mu) (hl:m.h.light) (h:0 < m.t.ops.length):Spec X 198 [(16,.vars (muV m))] [.c (.ptr 16 0 0)] (fun H r=>H=[(16,.vars (muV (zh4 m)))]∧r = .tup []):=by
 refine zd X_ok Tryz.f198 (by kernel_rfl) (by kernel_rfl) (by kernel_rfl) fun hb hH=>⟨rfl,?_⟩
 unfold zh4
 show ACall ..
 refine za (za2 m h) rfl ?_
 show ACall ..
 refine za (za2 m h) rfl ?_
 show ACall ..
 refine za (zd5 m m.op.a m.op.b hl) rfl ?_
 show ABr (zaZ m m.op.a m.op.b != 0) _ _
 by_cases h1:zaZ m m.op.a m.op.b≠0
 ·rw [if_pos h1,show (zaZ m m.op.a m.op.b != 0)=true by simpa using h1]
  show ABr ..
  refine ⟨fun _=>?_,fun h=>absurd h (by decide)⟩
  show ACall ..
  refine .hand [(16,16)] [(16,.vars (muV m))] [.c (.ptr 16 0 0),.int 5,.int 0] _ (.cons _ _ _ _ (.c _ _ (.ptr _ _ _ _ rfl)) (.cons _ _ _ _ .same (.cons _ _ _ _ .same .nil))) (.old 16 16 _ _ _ rfl rfl (.vars _ _ (zb rfl)) .nil) rfl (zu m 5 0 h) ?_
  rintro H r ⟨rfl,rfl⟩ _ _
  refine ⟨rfl,.inl rfl,?_⟩
  show ARet ..
  exact ⟨[(16,16)],[(16,.vars (muV (endM m 5 0)))],[],.nil,.old 16 16 _ _ _ rfl rfl (.vars _ _ (zb rfl)) .nil,rfl,rfl,rfl⟩
 ·rw [if_neg h1,show (zaZ m m.op.a m.op.b != 0)=false by simpa using h1]
  show ABr ..
  refine ⟨fun h=>absurd h (by decide),fun _=>?_⟩
  obtain ⟨w1,w2,w3,_⟩:=zfZ (Classical.not_not.1 h1)
  show ADCall ..
  refine .mk _ _ (zeg m.h.w (zc6 m m.op.a m.op.b) m.t.y w1 ⟨w2,w3⟩) rfl ?_
  show ACall ..
  refine .hand [(16,16)] [(16,.vars (muV ({ m with h:={ m.h with w:=m.h.w.set (zc6 m m.op.a m.op.b - 16).toNat m.t.y } })))] [.c (.ptr 16 0 0),.int 0,.int 0] _ (.cons _ _ _ _ (.c _ _ (.ptr _ _ _ _ rfl)) (.cons _ _ _ _ .same (.cons _ _ _ _ .same .nil))) (.old 16 16 _ _ _ rfl rfl (.vars _ _ (zb rfl)) .nil) rfl (zgu ({ m with h:={ m.h with w:=m.h.w.set (zc6 m m.op.a m.op.b - 16).toNat m.t.y } }) 0 0 h) ?_
  rintro H r ⟨rfl,rfl⟩ _ _
  refine ⟨rfl,.inl rfl,?_⟩
  show ARet ..
  exact ⟨[(16,16)],[(16,.vars (muV ({ zhQ m 0 0 with h:={ m.h with w:=m.h.w.set (zc6 m m.op.a m.op.b - 16).toNat m.t.y },t:={ m.t with pc:=4 } })))],[],.nil,.old 16 16 _ _ _ rfl rfl (.vars _ _ (zb rfl)) .nil,rfl,rfl,rfl⟩
theorem zop (m:Mu) (hl:m.h.light) (h:0 < m.t.ops.length):Spec X 199 [(16,.vars (muV m))] [.c (.ptr 16 0 0)] (fun H r=>H=[(16,.vars (muV (zh1 m)))]∧r = .tup []):=by
 refine zd X_ok Tryz.f199 (by kernel_rfl) (by kernel_rfl) (by kernel_rfl) fun hb hH=>⟨rfl,?_⟩
 unfold zh1
 show ACall ..
 refine za (za2 m h) rfl ?_
 show ACall ..
 refine za (za2 m h) rfl ?_
 show ACall ..
 refine za (zd5 m m.op.a m.op.b hl) rfl ?_
 show ABr (zaZ m m.op.a m.op.b == 0) _ _
 by_cases h1:zaZ m m.op.a m.op.b=0
 ·rw [if_pos h1,show (zaZ m m.op.a m.op.b == 0)=true by simpa using h1]
  show ABr ..
  refine ⟨fun _=>?_,fun h=>absurd h (by decide)⟩
  obtain ⟨w1,w2,w3,w4,w5,_⟩:=zfZ h1
  show ACall ..
  refine za (zgQ m.h (zdA m m.op.a m.op.b) hl (by omega)) rfl ?_
  show ACall ..
  refine .hand [(16,16)] [(16,.vars (muV ({ m with h:=zaU m.h (zdA m m.op.a m.op.b) })))] [.c (.ptr 16 0 0)] _ (.cons _ _ _ _ (.c _ _ (.ptr _ _ _ _ rfl)) .nil) (.old 16 16 _ _ _ rfl rfl (.vars _ _ (zb rfl)) .nil) rfl (zgU ({ m with h:=zaU m.h (zdA m m.op.a m.op.b) }) h) ?_
  rintro H r ⟨rfl,rfl⟩ _ _
  refine ⟨rfl,.inl rfl,?_⟩
  show ARet ..
  exact ⟨[(16,16)],[(16,.vars (muV (zkY ({ m with h:=zaU m.h (zdA m m.op.a m.op.b) }))))],[],.nil,.old 16 16 _ _ _ rfl rfl (.vars _ _ (zb rfl)) .nil,rfl,rfl,rfl⟩
 ·rw [if_neg h1,show (zaZ m m.op.a m.op.b == 0)=false by simpa using h1]
  show ABr ..
  refine ⟨fun h=>absurd h (by decide),fun _=>?_⟩
  show ACall ..
  refine .hand [(16,16)] [(16,.vars (muV m))] [.c (.ptr 16 0 0)] _ (.cons _ _ _ _ (.c _ _ (.ptr _ _ _ _ rfl)) .nil) (.old 16 16 _ _ _ rfl rfl (.vars _ _ (zb rfl)) .nil) rfl (zgU m h) ?_
  rintro H r ⟨rfl,rfl⟩ _ _
  refine ⟨rfl,.inl rfl,?_⟩
  show ARet ..
  exact ⟨[(16,16)],[(16,.vars (muV (zkY m)))],[],.nil,.old 16 16 _ _ _ rfl rfl (.vars _ _ (zb rfl)) .nil,rfl,rfl,rfl⟩
def pcM (m:Mu) (k:Int):Mu:={ m with t:={ m.t with pc:=k } }
theorem zju {m:Mu} {k:Int} (h:m.t.pc=k):pcM m k=m:=by
 subst h
 rfl
theorem znf (m:Mu) (hl:m.h.light) (h:0 < m.t.ops.length):Spec X 150 [(16,.vars (muV (pcM m 0)))] [.c (.ptr 16 0 0)] (fun H r=>H=[(16,.vars (muV (storeM (pcM m 0))))]∧r = .tup []):=by
 refine zd X_ok Tryz.f150 (by kernel_rfl) (by kernel_rfl) (by kernel_rfl) fun hb hH=>⟨rfl,?_⟩
 show AOb ((0:Int)≤0∧(0:Int) < 5) _
 refine ⟨by decide,?_⟩
 show ACall ..
 refine .hand [(16,16)] [(16,.vars (muV (pcM m 0)))] [.c (.ptr 16 0 0)] _ (.cons _ _ _ _ (.c _ _ (.ptr _ _ _ _ rfl)) .nil) (.old 16 16 _ _ _ rfl rfl (.vars _ _ (zb rfl)) .nil) rfl (zoH (pcM m 0) hl h) ?_
 rintro H r ⟨rfl,rfl⟩ _ _
 refine ⟨rfl,.inl rfl,?_⟩
 show ARet ..
 exact ⟨[(16,16)],[(16,.vars (muV (storeM (pcM m 0))))],[],.nil,.old 16 16 _ _ _ rfl rfl (.vars _ _ (zb rfl)) .nil,rfl,rfl,rfl⟩
end Go.Abs
