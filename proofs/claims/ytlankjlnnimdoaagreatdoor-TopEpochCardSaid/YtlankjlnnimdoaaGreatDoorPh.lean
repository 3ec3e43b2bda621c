/- Walks and plain laws: WMut4, WMut5, WWorld3, WWorld4, WWorld5, WTop, WTopC. -/
import Derived.Test.YtlankjlnnimdoaaGreatDoorPg
import Derived.Test.YtlankjlnnimdoaaGreatDoorPe
set_option linter.all false
set_option linter.unusedVariables false
set_option linter.unusedSimpArgs false
namespace Go.Abs
open Go.Proofs Go.Proofs.YtlankjlnnimdoaaGreatDoor
set_option maxRecDepth 60000
theorem znt (m:Mu) (hl:m.h.light) (hs:m.h.small) (hw:m.c.work.length < most) (h:0 < m.t.ops.length):Spec X 150 [(16,.vars (muV (pcM m 1)))] [.c (.ptr 16 0 0)] (fun H r=>H=[(16,.vars (muV (storeM (pcM m 1))))]∧r = .tup []):=by
 refine zd X_ok Tryz.f150 (by kernel_rfl) (by kernel_rfl) (by kernel_rfl) fun hb hH=>⟨rfl,?_⟩
 show AOb ((0:Int)≤1∧(1:Int) < 5) _
 refine ⟨by decide,?_⟩
 show ACall ..
 refine .hand [(16,16)] [(16,.vars (muV (pcM m 1)))] [.c (.ptr 16 0 0)] _ (.cons _ _ _ _ (.c _ _ (.ptr _ _ _ _ rfl)) .nil) (.old 16 16 _ _ _ rfl rfl (.vars _ _ (zb rfl)) .nil) rfl (zs9 (pcM m 1) hl hs hw (by show (0:Int)≤1∧(1:Int)≤4;decide)) ?_
 rintro H r ⟨rfl,rfl⟩ _ _
 refine ⟨rfl,.inl rfl,?_⟩
 show ARet ..
 exact ⟨[(16,16)],[(16,.vars (muV (storeM (pcM m 1))))],[],.nil,.old 16 16 _ _ _ rfl rfl (.vars _ _ (zb rfl)) .nil,rfl,rfl,rfl⟩
theorem zmD (m:Mu) (hl:m.h.light) (hs:m.h.small) (hw:m.c.work.length < most) (h:0 < m.t.ops.length):Spec X 150 [(16,.vars (muV (pcM m 2)))] [.c (.ptr 16 0 0)] (fun H r=>H=[(16,.vars (muV (storeM (pcM m 2))))]∧r = .tup []):=by
 refine zd X_ok Tryz.f150 (by kernel_rfl) (by kernel_rfl) (by kernel_rfl) fun hb hH=>⟨rfl,?_⟩
 show AOb ((0:Int)≤2∧(2:Int) < 5) _
 refine ⟨by decide,?_⟩
 show ACall ..
 refine .hand [(16,16)] [(16,.vars (muV (pcM m 2)))] [.c (.ptr 16 0 0)] _ (.cons _ _ _ _ (.c _ _ (.ptr _ _ _ _ rfl)) .nil) (.old 16 16 _ _ _ rfl rfl (.vars _ _ (zb rfl)) .nil) rfl (zn8 (pcM m 2) hl hs hw (by show (0:Int)≤2∧(2:Int)≤4;decide)) ?_
 rintro H r ⟨rfl,rfl⟩ _ _
 refine ⟨rfl,.inl rfl,?_⟩
 show ARet ..
 exact ⟨[(16,16)],[(16,.vars (muV (storeM (pcM m 2))))],[],.nil,.old 16 16 _ _ _ rfl rfl (.vars _ _ (zb rfl)) .nil,rfl,rfl,rfl⟩
theorem zmj (m:Mu) (hl:m.h.light) (h:0 < m.t.ops.length):Spec X 150 [(16,.vars (muV (pcM m 3)))] [.c (.ptr 16 0 0)] (fun H r=>H=[(16,.vars (muV (storeM (pcM m 3))))]∧r = .tup []):=by
 refine zd X_ok Tryz.f150 (by kernel_rfl) (by kernel_rfl) (by kernel_rfl) fun hb hH=>⟨rfl,?_⟩
 show AOb ((0:Int)≤3∧(3:Int) < 5) _
 refine ⟨by decide,?_⟩
 show ACall ..
 refine .hand [(16,16)] [(16,.vars (muV (pcM m 3)))] [.c (.ptr 16 0 0)] _ (.cons _ _ _ _ (.c _ _ (.ptr _ _ _ _ rfl)) .nil) (.old 16 16 _ _ _ rfl rfl (.vars _ _ (zb rfl)) .nil) rfl (znY (pcM m 3) hl h) ?_
 rintro H r ⟨rfl,rfl⟩ _ _
 refine ⟨rfl,.inl rfl,?_⟩
 show ARet ..
 exact ⟨[(16,16)],[(16,.vars (muV (storeM (pcM m 3))))],[],.nil,.old 16 16 _ _ _ rfl rfl (.vars _ _ (zb rfl)) .nil,rfl,rfl,rfl⟩
theorem zmC (m:Mu) (hl:m.h.light) (h:0 < m.t.ops.length):Spec X 150 [(16,.vars (muV (pcM m 4)))] [.c (.ptr 16 0 0)] (fun H r=>H=[(16,.vars (muV (storeM (pcM m 4))))]∧r = .tup []):=by
 refine zd X_ok Tryz.f150 (by kernel_rfl) (by kernel_rfl) (by kernel_rfl) fun hb hH=>⟨rfl,?_⟩
 show AOb ((0:Int)≤4∧(4:Int) < 5) _
 refine ⟨by decide,?_⟩
 show ACall ..
 refine .hand [(16,16)] [(16,.vars (muV (pcM m 4)))] [.c (.ptr 16 0 0)] _ (.cons _ _ _ _ (.c _ _ (.ptr _ _ _ _ rfl)) .nil) (.old 16 16 _ _ _ rfl rfl (.vars _ _ (zb rfl)) .nil) rfl (zop (pcM m 4) hl h) ?_
 rintro H r ⟨rfl,rfl⟩ _ _
 refine ⟨rfl,.inl rfl,?_⟩
 show ARet ..
 exact ⟨[(16,16)],[(16,.vars (muV (storeM (pcM m 4))))],[],.nil,.old 16 16 _ _ _ rfl rfl (.vars _ _ (zb rfl)) .nil,rfl,rfl,rfl⟩
theorem znF (m:Mu) (hl:m.h.light) (hs:m.h.small) (hw:m.c.work.length < most) (h:0 < m.t.ops.length) (hp:0≤m.t.pc∧m.t.pc≤4):Spec X 150 [(16,.vars (muV m))] [.c (.ptr 16 0 0)] (fun H r=>H=[(16,.vars (muV (storeM m)))]∧r = .tup []):=by
 have e:m.t.pc=0∨m.t.pc=1∨m.t.pc=2∨m.t.pc=3∨m.t.pc=4:=by omega
 rcases e with e | e | e | e | e
 ·have:=znf m hl h;rw [zju e] at this;exact this
 ·have:=znt m hl hs hw h;rw [zju e] at this;exact this
 ·have:=zmD m hl hs hw h;rw [zju e] at this;exact this
 ·have:=zmj m hl h;rw [zju e] at this;exact this
 ·have:=zmC m hl h;rw [zju e] at this;exact this
theorem zrz (m:Mu) (ht:m.t.ok) (h:0 < m.t.ops.length):Spec X 151 [(16,.vars (muV m))] [.c (.ptr 16 0 0)] (fun H r=>H=[(16,.vars (muV (dropM m)))]∧r = .tup []):=by
 refine zd X_ok Tryz.f151 (by kernel_rfl) (by kernel_rfl) (by kernel_rfl) fun hb hH=>⟨rfl,?_⟩
 unfold dropM
 show ACall ..
 refine za (za2 m h) rfl ?_
 show ACall ..
 refine za (zC m m.op.a) rfl ?_
 show ACall ..
 refine za (za2 m h) rfl ?_
 show ACall ..
 refine .hand [(16,16)] [(16,.vars (muV m))] [.c (.ptr 16 0 0),.int m.op.a,.int 0] _ (.cons _ _ _ _ (.c _ _ (.ptr _ _ _ _ rfl)) (.cons _ _ _ _ .same (.cons _ _ _ _ .same .nil))) (.old 16 16 _ _ _ rfl rfl (.vars _ _ (zb rfl)) .nil) rfl (zik m m.op.a 0 ht) ?_
 rintro H r ⟨rfl,rfl⟩ _ _
 refine ⟨rfl,.inl rfl,?_⟩
 show ACall ..
 refine .hand [(16,16)] [(16,.vars (muV (zc2 m m.op.a 0)))] [.c (.ptr 16 0 0),.int (zA m.op.a),.int 0] _ (.cons _ _ _ _ (.c _ _ (.ptr _ _ _ _ rfl)) (.cons _ _ _ _ .same (.cons _ _ _ _ .same .nil))) (.old 16 16 _ _ _ rfl rfl (.vars _ _ (zb rfl)) .nil) rfl (zu (zc2 m m.op.a 0) (zA m.op.a) 0 (by rw [zhb];exact h)) ?_
 rintro H r ⟨rfl,rfl⟩ _ _
 refine ⟨rfl,.inl rfl,?_⟩
 show ARet ..
 exact ⟨[(16,16)],[(16,.vars (muV (endM (zc2 m m.op.a 0) (zA m.op.a) 0)))],[],.nil,.old 16 16 _ _ _ rfl rfl (.vars _ _ (zb rfl)) .nil,rfl,rfl,rfl⟩
theorem zqf (m:Mu) (hl:m.h.light) (h:0 < m.t.ops.length):Spec X 153 [(16,.vars (muV m))] [.c (.ptr 16 0 0)] (fun H r=>H=[(16,.vars (muV (sizeM m)))]∧r = .tup []):=by
 refine zd X_ok Tryz.f153 (by kernel_rfl) (by kernel_rfl) (by kernel_rfl) fun hb hH=>⟨rfl,?_⟩
 unfold sizeM
 show ADCall ..
 refine .mk _ _ (za2 m h) rfl ?_
 show ADCall ..
 refine .mk _ _ (zjb m.h m.t m.op.a hl) rfl ?_
 show ACall ..
 refine .hand [(16,16)] [(16,.vars (muV m))] [.c (.ptr 16 0 0),.int (zdh m.h m.t m.op.a),.int (zef m.h m.t m.op.a)] _ (.cons _ _ _ _ (.c _ _ (.ptr _ _ _ _ rfl)) (.cons _ _ _ _ .same (.cons _ _ _ _ .same .nil))) (.old 16 16 _ _ _ rfl rfl (.vars _ _ (zb rfl)) .nil) rfl (zu m (zdh m.h m.t m.op.a) (zef m.h m.t m.op.a) h) ?_
 rintro H r ⟨rfl,rfl⟩ _ _
 refine ⟨rfl,.inl rfl,?_⟩
 show ARet ..
 exact ⟨[(16,16)],[(16,.vars (muV (endM m (zdh m.h m.t m.op.a) (zef m.h m.t m.op.a))))],[],.nil,.old 16 16 _ _ _ rfl rfl (.vars _ _ (zb rfl)) .nil,rfl,rfl,rfl⟩
theorem zq5 (m:Mu) (hs:m.h.small) (hlm:(zm (zdV m.h [m.t.cache])).length≤most) (h:0 < m.t.ops.length):Spec X 154 [(16,.vars (muV m))] [.c (.ptr 16 0 0)] (fun H r=>H=[(16,.vars (muV (exitM m)))]∧r = .tup []):=by
 refine zd X_ok Tryz.f154 (by kernel_rfl) (by kernel_rfl) (by kernel_rfl) fun hb hH=>⟨rfl,?_⟩
 unfold exitM
 show ACall ..
 refine .hand [(16,16)] [(16,.vars (muV m))] [.c (.ptr 16 0 0),.int 0,.int 0] _ (.cons _ _ _ _ (.c _ _ (.ptr _ _ _ _ rfl)) (.cons _ _ _ _ .same (.cons _ _ _ _ .same .nil))) (.old 16 16 _ _ _ rfl rfl (.vars _ _ (zb rfl)) .nil) rfl (zgu m 0 0 h) ?_
 rintro H r ⟨rfl,rfl⟩ _ _
 refine ⟨rfl,.inl rfl,?_⟩
 show ADCall ..
 refine .mk _ _ ((zqo m.h m.t.cache hs hlm).uz) rfl ?_
 show ARet ..
 refine ⟨[(16,16)],[(16,.vars (muV { zhQ m 0 0 with h:=zfC m.h m.t.cache,t:=Thread.zero }))],[],.nil,.old 16 16 _ _ _ rfl rfl (.vars _ _ ?_) .nil,rfl,rfl,rfl⟩
 repeat (first | exact .nil | refine .cons _ _ _ _ (.d _) ?_ | refine .cons _ _ _ _ (.nilsl _) ?_)
theorem zsl (m:Mu) (h:0 < m.t.ops.length):Spec X 155 [(16,.vars (muV m))] [.c (.ptr 16 0 0)] (fun H r=>H=[(16,.vars (muV (endM m 1 0)))]∧r = .tup []):=by
 refine zd X_ok Tryz.f155 (by kernel_rfl) (by kernel_rfl) (by kernel_rfl) fun hb hH=>⟨rfl,?_⟩
 show ACall ..
 refine .hand [(16,16)] [(16,.vars (muV m))] [.c (.ptr 16 0 0),.int 1,.int 0] _ (.cons _ _ _ _ (.c _ _ (.ptr _ _ _ _ rfl)) (.cons _ _ _ _ .same (.cons _ _ _ _ .same .nil))) (.old 16 16 _ _ _ rfl rfl (.vars _ _ (zb rfl)) .nil) rfl (zu m 1 0 h) ?_
 rintro H r ⟨rfl,rfl⟩ _ _
 refine ⟨rfl,.inl rfl,?_⟩
 show ARet ..
 exact ⟨[(16,16)],[(16,.vars (muV (endM m 1 0)))],[],.nil,.old 16 16 _ _ _ rfl rfl (.vars _ _ (zb rfl)) .nil,rfl,rfl,rfl⟩
theorem zY (m:Mu) (x:Op) (h:0 < m.t.ops.length) (hx:m.op=x):Spec X 157 [] [.c (.d (.rp m.cells))] (Ret [] (.dagg (EK.enc .op x))):=hx ▸ za2 m h
theorem znv (m:Mu) (k c:Int) (h:0 < m.t.ops.length) (hx:m.op=⟨k,0,0,c⟩):Spec X 152 [(16,.vars (muV m))] [.c (.ptr 16 0 0)] (fun H r=>H=[(16,.vars (muV (sameM m)))]∧r = .tup []):=by
 refine zd X_ok Tryz.f152 (by kernel_rfl) (by kernel_rfl) (by kernel_rfl) fun hb hH=>⟨rfl,?_⟩
 have hE:zap m=0:=by unfold zap;rw [hx];rfl
 unfold sameM
 rw [hE]
 show ACall ..
 refine za (zY m _ h hx) rfl ?_
 show ADCall ..
 refine .mk _ _ (zC m 0) rfl ?_
 show ADCall ..
 refine .mk _ _ (zC m 0) rfl ?_
 show ADCall ..
 refine .mk _ _ (zS (zA 0) (zA 0)) rfl ?_
 show ABr (zJ (zA 0) (zA 0) == 0) _ _
 rw [show (zJ (zA 0) (zA 0) == 0)=true from rfl]
 show ABr ..
 refine ⟨fun _=>?_,fun h=>absurd h (by decide)⟩
 show AOb ..
 refine ⟨by show (0:Int)≤0∧(0:Int) < 4;decide,?_⟩
 show AOb ..
 refine ⟨by show (0:Int)≤0∧(0:Int) < 4;decide,?_⟩
 show ABr (m.t.r0 == m.t.r0) _ _
 by_cases h1:m.t.r0=m.t.r0
 ·rw [show (m.t.r0 == m.t.r0)=true by simpa using h1,if_pos ⟨rfl,by first | (rw [hx];done) | (rw [hx];exact h1)⟩]
  show ABr ..
  refine ⟨fun _=>?_,fun h=>absurd h (by decide)⟩
  show ACall ..
  refine .hand [(16,16)] [(16,.vars (muV m))] [.c (.ptr 16 0 0),.int 0,.int 1] _ (.cons _ _ _ _ (.c _ _ (.ptr _ _ _ _ rfl)) (.cons _ _ _ _ .same (.cons _ _ _ _ .same .nil))) (.old 16 16 _ _ _ rfl rfl (.vars _ _ (zb rfl)) .nil) rfl (zu m 0 1 h) ?_
  rintro H r ⟨rfl,rfl⟩ _ _
  refine ⟨rfl,.inl rfl,?_⟩
  show ARet ..
  exact ⟨[(16,16)],[(16,.vars (muV (endM m 0 1)))],[],.nil,.old 16 16 _ _ _ rfl rfl (.vars _ _ (zb rfl)) .nil,rfl,rfl,rfl⟩
 ·rw [show (m.t.r0 == m.t.r0)=false by simpa using h1,if_neg (fun e=>h1 (by first | rfl | (rw [hx] at e;exact e.2)))]
  show ABr ..
  refine ⟨fun h=>absurd h (by decide),fun _=>?_⟩
  show ACall ..
  refine .hand [(16,16)] [(16,.vars (muV m))] [.c (.ptr 16 0 0),.int 0,.int 0] _ (.cons _ _ _ _ (.c _ _ (.ptr _ _ _ _ rfl)) (.cons _ _ _ _ .same (.cons _ _ _ _ .same .nil))) (.old 16 16 _ _ _ rfl rfl (.vars _ _ (zb rfl)) .nil) rfl (zu m 0 0 h) ?_
  rintro H r ⟨rfl,rfl⟩ _ _
  refine ⟨rfl,.inl rfl,?_⟩
  show ARet ..
  exact ⟨[(16,16)],[(16,.vars (muV (endM m 0 0)))],[],.nil,.old 16 16 _ _ _ rfl rfl (.vars _ _ (zb rfl)) .nil,rfl,rfl,rfl⟩
theorem zm9 (m:Mu) (k c:Int) (h:0 < m.t.ops.length) (hx:m.op=⟨k,0,1,c⟩):Spec X 152 [(16,.vars (muV m))] [.c (.ptr 16 0 0)] (fun H r=>H=[(16,.vars (muV (sameM m)))]∧r = .tup []):=by
 refine zd X_ok Tryz.f152 (by kernel_rfl) (by kernel_rfl) (by kernel_rfl) fun hb hH=>⟨rfl,?_⟩
 have hE:zap m=0:=by unfold zap;rw [hx];rfl
 unfold sameM
 rw [hE]
 show ACall ..
 refine za (zY m _ h hx) rfl ?_
 show ADCall ..
 refine .mk _ _ (zC m 0) rfl ?_
 show ADCall ..
 refine .mk _ _ (zC m 1) rfl ?_
 show ADCall ..
 refine .mk _ _ (zS (zA 0) (zA 1)) rfl ?_
 show ABr (zJ (zA 0) (zA 1) == 0) _ _
 rw [show (zJ (zA 0) (zA 1) == 0)=true from rfl]
 show ABr ..
 refine ⟨fun _=>?_,fun h=>absurd h (by decide)⟩
 show AOb ..
 refine ⟨by show (0:Int)≤0∧(0:Int) < 4;decide,?_⟩
 show AOb ..
 refine ⟨by show (0:Int)≤1∧(1:Int) < 4;decide,?_⟩
 show ABr (m.t.r0 == m.t.r1) _ _
 by_cases h1:m.t.r0=m.t.r1
 ·rw [show (m.t.r0 == m.t.r1)=true by simpa using h1,if_pos ⟨rfl,by first | (rw [hx];done) | (rw [hx];exact h1)⟩]
  show ABr ..
  refine ⟨fun _=>?_,fun h=>absurd h (by decide)⟩
  show ACall ..
  refine .hand [(16,16)] [(16,.vars (muV m))] [.c (.ptr 16 0 0),.int 0,.int 1] _ (.cons _ _ _ _ (.c _ _ (.ptr _ _ _ _ rfl)) (.cons _ _ _ _ .same (.cons _ _ _ _ .same .nil))) (.old 16 16 _ _ _ rfl rfl (.vars _ _ (zb rfl)) .nil) rfl (zu m 0 1 h) ?_
  rintro H r ⟨rfl,rfl⟩ _ _
  refine ⟨rfl,.inl rfl,?_⟩
  show ARet ..
  exact ⟨[(16,16)],[(16,.vars (muV (endM m 0 1)))],[],.nil,.old 16 16 _ _ _ rfl rfl (.vars _ _ (zb rfl)) .nil,rfl,rfl,rfl⟩
 ·rw [show (m.t.r0 == m.t.r1)=false by simpa using h1,if_neg (fun e=>h1 (by first | rfl | (rw [hx] at e;exact e.2)))]
  show ABr ..
  refine ⟨fun h=>absurd h (by decide),fun _=>?_⟩
  show ACall ..
  refine .hand [(16,16)] [(16,.vars (muV m))] [.c (.ptr 16 0 0),.int 0,.int 0] _ (.cons _ _ _ _ (.c _ _ (.ptr _ _ _ _ rfl)) (.cons _ _ _ _ .same (.cons _ _ _ _ .same .nil))) (.old 16 16 _ _ _ rfl rfl (.vars _ _ (zb rfl)) .nil) rfl (zu m 0 0 h) ?_
  rintro H r ⟨rfl,rfl⟩ _ _
  refine ⟨rfl,.inl rfl,?_⟩
  show ARet ..
  exact ⟨[(16,16)],[(16,.vars (muV (endM m 0 0)))],[],.nil,.old 16 16 _ _ _ rfl rfl (.vars _ _ (zb rfl)) .nil,rfl,rfl,rfl⟩
theorem zmt (m:Mu) (k c:Int) (h:0 < m.t.ops.length) (hx:m.op=⟨k,0,2,c⟩):Spec X 152 [(16,.vars (muV m))] [.c (.ptr 16 0 0)] (fun H r=>H=[(16,.vars (muV (sameM m)))]∧r = .tup []):=by
 refine zd X_ok Tryz.f152 (by kernel_rfl) (by kernel_rfl) (by kernel_rfl) fun hb hH=>⟨rfl,?_⟩
 have hE:zap m=0:=by unfold zap;rw [hx];rfl
 unfold sameM
 rw [hE]
 show ACall ..
 refine za (zY m _ h hx) rfl ?_
 show ADCall ..
 refine .mk _ _ (zC m 0) rfl ?_
 show ADCall ..
 refine .mk _ _ (zC m 2) rfl ?_
 show ADCall ..
 refine .mk _ _ (zS (zA 0) (zA 2)) rfl ?_
 show ABr (zJ (zA 0) (zA 2) == 0) _ _
 rw [show (zJ (zA 0) (zA 2) == 0)=true from rfl]
 show ABr ..
 refine ⟨fun _=>?_,fun h=>absurd h (by decide)⟩
 show AOb ..
 refine ⟨by show (0:Int)≤0∧(0:Int) < 4;decide,?_⟩
 show AOb ..
 refine ⟨by show (0:Int)≤2∧(2:Int) < 4;decide,?_⟩
 show ABr (m.t.r0 == m.t.r2) _ _
 by_cases h1:m.t.r0=m.t.r2
 ·rw [show (m.t.r0 == m.t.r2)=true by simpa using h1,if_pos ⟨rfl,by first | (rw [hx];done) | (rw [hx];exact h1)⟩]
  show ABr ..
  refine ⟨fun _=>?_,fun h=>absurd h (by decide)⟩
  show ACall ..
  refine .hand [(16,16)] [(16,.vars (muV m))] [.c (.ptr 16 0 0),.int 0,.int 1] _ (.cons _ _ _ _ (.c _ _ (.ptr _ _ _ _ rfl)) (.cons _ _ _ _ .same (.cons _ _ _ _ .same .nil))) (.old 16 16 _ _ _ rfl rfl (.vars _ _ (zb rfl)) .nil) rfl (zu m 0 1 h) ?_
  rintro H r ⟨rfl,rfl⟩ _ _
  refine ⟨rfl,.inl rfl,?_⟩
  show ARet ..
  exact ⟨[(16,16)],[(16,.vars (muV (endM m 0 1)))],[],.nil,.old 16 16 _ _ _ rfl rfl (.vars _ _ (zb rfl)) .nil,rfl,rfl,rfl⟩
 ·rw [show (m.t.r0 == m.t.r2)=false by simpa using h1,if_neg (fun e=>h1 (by first | rfl | (rw [hx] at e;exact e.2)))]
  show ABr ..
  refine ⟨fun h=>absurd h (by decide),fun _=>?_⟩
  show ACall ..
  refine .hand [(16,16)] [(16,.vars (muV m))] [.c (.ptr 16 0 0),.int 0,.int 0] _ (.cons _ _ _ _ (.c _ _ (.ptr _ _ _ _ rfl)) (.cons _ _ _ _ .same (.cons _ _ _ _ .same .nil))) (.old 16 16 _ _ _ rfl rfl (.vars _ _ (zb rfl)) .nil) rfl (zu m 0 0 h) ?_
  rintro H r ⟨rfl,rfl⟩ _ _
  refine ⟨rfl,.inl rfl,?_⟩
  show ARet ..
  exact ⟨[(16,16)],[(16,.vars (muV (endM m 0 0)))],[],.nil,.old 16 16 _ _ _ rfl rfl (.vars _ _ (zb rfl)) .nil,rfl,rfl,rfl⟩
theorem zmf (m:Mu) (k c:Int) (h:0 < m.t.ops.length) (hx:m.op=⟨k,0,3,c⟩):Spec X 152 [(16,.vars (muV m))] [.c (.ptr 16 0 0)] (fun H r=>H=[(16,.vars (muV (sameM m)))]∧r = .tup []):=by
 refine zd X_ok Tryz.f152 (by kernel_rfl) (by kernel_rfl) (by kernel_rfl) fun hb hH=>⟨rfl,?_⟩
 have hE:zap m=0:=by unfold zap;rw [hx];rfl
 unfold sameM
 rw [hE]
 show ACall ..
 refine za (zY m _ h hx) rfl ?_
 show ADCall ..
 refine .mk _ _ (zC m 0) rfl ?_
 show ADCall ..
 refine .mk _ _ (zC m 3) rfl ?_
 show ADCall ..
 refine .mk _ _ (zS (zA 0) (zA 3)) rfl ?_
 show ABr (zJ (zA 0) (zA 3) == 0) _ _
 rw [show (zJ (zA 0) (zA 3) == 0)=true from rfl]
 show ABr ..
 refine ⟨fun _=>?_,fun h=>absurd h (by decide)⟩
 show AOb ..
 refine ⟨by show (0:Int)≤0∧(0:Int) < 4;decide,?_⟩
 show AOb ..
 refine ⟨by show (0:Int)≤3∧(3:Int) < 4;decide,?_⟩
 show ABr (m.t.r0 == m.t.r3) _ _
 by_cases h1:m.t.r0=m.t.r3
 ·rw [show (m.t.r0 == m.t.r3)=true by simpa using h1,if_pos ⟨rfl,by first | (rw [hx];done) | (rw [hx];exact h1)⟩]
  show ABr ..
  refine ⟨fun _=>?_,fun h=>absurd h (by decide)⟩
  show ACall ..
  refine .hand [(16,16)] [(16,.vars (muV m))] [.c (.ptr 16 0 0),.int 0,.int 1] _ (.cons _ _ _ _ (.c _ _ (.ptr _ _ _ _ rfl)) (.cons _ _ _ _ .same (.cons _ _ _ _ .same .nil))) (.old 16 16 _ _ _ rfl rfl (.vars _ _ (zb rfl)) .nil) rfl (zu m 0 1 h) ?_
  rintro H r ⟨rfl,rfl⟩ _ _
  refine ⟨rfl,.inl rfl,?_⟩
  show ARet ..
  exact ⟨[(16,16)],[(16,.vars (muV (endM m 0 1)))],[],.nil,.old 16 16 _ _ _ rfl rfl (.vars _ _ (zb rfl)) .nil,rfl,rfl,rfl⟩
 ·rw [show (m.t.r0 == m.t.r3)=false by simpa using h1,if_neg (fun e=>h1 (by first | rfl | (rw [hx] at e;exact e.2)))]
  show ABr ..
  refine ⟨fun h=>absurd h (by decide),fun _=>?_⟩
  show ACall ..
  refine .hand [(16,16)] [(16,.vars (muV m))] [.c (.ptr 16 0 0),.int 0,.int 0] _ (.cons _ _ _ _ (.c _ _ (.ptr _ _ _ _ rfl)) (.cons _ _ _ _ .same (.cons _ _ _ _ .same .nil))) (.old 16 16 _ _ _ rfl rfl (.vars _ _ (zb rfl)) .nil) rfl (zu m 0 0 h) ?_
  rintro H r ⟨rfl,rfl⟩ _ _
  refine ⟨rfl,.inl rfl,?_⟩
  show ARet ..
  exact ⟨[(16,16)],[(16,.vars (muV (endM m 0 0)))],[],.nil,.old 16 16 _ _ _ rfl rfl (.vars _ _ (zb rfl)) .nil,rfl,rfl,rfl⟩
theorem zmG (m:Mu) (k c:Int) (h:0 < m.t.ops.length) (hx:m.op=⟨k,1,0,c⟩):Spec X 152 [(16,.vars (muV m))] [.c (.ptr 16 0 0)] (fun H r=>H=[(16,.vars (muV (sameM m)))]∧r = .tup []):=by
 refine zd X_ok Tryz.f152 (by kernel_rfl) (by kernel_rfl) (by kernel_rfl) fun hb hH=>⟨rfl,?_⟩
 have hE:zap m=0:=by unfold zap;rw [hx];rfl
 unfold sameM
 rw [hE]
 show ACall ..
 refine za (zY m _ h hx) rfl ?_
 show ADCall ..
 refine .mk _ _ (zC m 1) rfl ?_
 show ADCall ..
 refine .mk _ _ (zC m 0) rfl ?_
 show ADCall ..
 refine .mk _ _ (zS (zA 1) (zA 0)) rfl ?_
 show ABr (zJ (zA 1) (zA 0) == 0) _ _
 rw [show (zJ (zA 1) (zA 0) == 0)=true from rfl]
 show ABr ..
 refine ⟨fun _=>?_,fun h=>absurd h (by decide)⟩
 show AOb ..
 refine ⟨by show (0:Int)≤1∧(1:Int) < 4;decide,?_⟩
 show AOb ..
 refine ⟨by show (0:Int)≤0∧(0:Int) < 4;decide,?_⟩
 show ABr (m.t.r1 == m.t.r0) _ _
 by_cases h1:m.t.r1=m.t.r0
 ·rw [show (m.t.r1 == m.t.r0)=true by simpa using h1,if_pos ⟨rfl,by first | (rw [hx];done) | (rw [hx];exact h1)⟩]
  show ABr ..
  refine ⟨fun _=>?_,fun h=>absurd h (by decide)⟩
  show ACall ..
  refine .hand [(16,16)] [(16,.vars (muV m))] [.c (.ptr 16 0 0),.int 0,.int 1] _ (.cons _ _ _ _ (.c _ _ (.ptr _ _ _ _ rfl)) (.cons _ _ _ _ .same (.cons _ _ _ _ .same .nil))) (.old 16 16 _ _ _ rfl rfl (.vars _ _ (zb rfl)) .nil) rfl (zu m 0 1 h) ?_
  rintro H r ⟨rfl,rfl⟩ _ _
  refine ⟨rfl,.inl rfl,?_⟩
  show ARet ..
  exact ⟨[(16,16)],[(16,.vars (muV (endM m 0 1)))],[],.nil,.old 16 16 _ _ _ rfl rfl (.vars _ _ (zb rfl)) .nil,rfl,rfl,rfl⟩
 ·rw [show (m.t.r1 == m.t.r0)=false by simpa using h1,if_neg (fun e=>h1 (by first | rfl | (rw [hx] at e;exact e.2)))]
  show ABr ..
  refine ⟨fun h=>absurd h (by decide),fun _=>?_⟩
  show ACall ..
  refine .hand [(16,16)] [(16,.vars (muV m))] [.c (.ptr 16 0 0),.int 0,.int 0] _ (.cons _ _ _ _ (.c _ _ (.ptr _ _ _ _ rfl)) (.cons _ _ _ _ .same (.cons _ _ _ _ .same .nil))) (.old 16 16 _ _ _ rfl rfl (.vars _ _ (zb rfl)) .nil) rfl (zu m 0 0 h) ?_
  rintro H r ⟨rfl,rfl⟩ _ _
  refine ⟨rfl,.inl rfl,?_⟩
  show ARet ..
  exact ⟨[(16,16)],[(16,.vars (muV (endM m 0 0)))],[],.nil,.old 16 16 _ _ _ rfl rfl (.vars _ _ (zb rfl)) .nil,rfl,rfl,rfl⟩
theorem zm2 (m:Mu) (k c:Int) (h:0 < m.t.ops.length) (hx:m.op=⟨k,1,1,c⟩):Spec X 152 [(16,.vars (muV m))] [.c (.ptr 16 0 0)] (fun H r=>H=[(16,.vars (muV (sameM m)))]∧r = .tup []):=by
 refine zd X_ok Tryz.f152 (by kernel_rfl) (by kernel_rfl) (by kernel_rfl) fun hb hH=>⟨rfl,?_⟩
 have hE:zap m=0:=by unfold zap;rw [hx];rfl
 unfold sameM
 rw [hE]
 show ACall ..
 refine za (zY m _ h hx) rfl ?_
 show ADCall ..
 refine .mk _ _ (zC m 1) rfl ?_
 show ADCall ..
 refine .mk _ _ (zC m 1) rfl ?_
 show ADCall ..
 refine .mk _ _ (zS (zA 1) (zA 1)) rfl ?_
 show ABr (zJ (zA 1) (zA 1) == 0) _ _
 rw [show (zJ (zA 1) (zA 1) == 0)=true from rfl]
 show ABr ..
 refine ⟨fun _=>?_,fun h=>absurd h (by decide)⟩
 show AOb ..
 refine ⟨by show (0:Int)≤1∧(1:Int) < 4;decide,?_⟩
 show AOb ..
 refine ⟨by show (0:Int)≤1∧(1:Int) < 4;decide,?_⟩
 show ABr (m.t.r1 == m.t.r1) _ _
 by_cases h1:m.t.r1=m.t.r1
 ·rw [show (m.t.r1 == m.t.r1)=true by simpa using h1,if_pos ⟨rfl,by first | (rw [hx];done) | (rw [hx];exact h1)⟩]
  show ABr ..
  refine ⟨fun _=>?_,fun h=>absurd h (by decide)⟩
  show ACall ..
  refine .hand [(16,16)] [(16,.vars (muV m))] [.c (.ptr 16 0 0),.int 0,.int 1] _ (.cons _ _ _ _ (.c _ _ (.ptr _ _ _ _ rfl)) (.cons _ _ _ _ .same (.cons _ _ _ _ .same .nil))) (.old 16 16 _ _ _ rfl rfl (.vars _ _ (zb rfl)) .nil) rfl (zu m 0 1 h) ?_
  rintro H r ⟨rfl,rfl⟩ _ _
  refine ⟨rfl,.inl rfl,?_⟩
  show ARet ..
  exact ⟨[(16,16)],[(16,.vars (muV (endM m 0 1)))],[],.nil,.old 16 16 _ _ _ rfl rfl (.vars _ _ (zb rfl)) .nil,rfl,rfl,rfl⟩
 ·rw [show (m.t.r1 == m.t.r1)=false by simpa using h1,if_neg (fun e=>h1 (by first | rfl | (rw [hx] at e;exact e.2)))]
  show ABr ..
  refine ⟨fun h=>absurd h (by decide),fun _=>?_⟩
  show ACall ..
  refine .hand [(16,16)] [(16,.vars (muV m))] [.c (.ptr 16 0 0),.int 0,.int 0] _ (.cons _ _ _ _ (.c _ _ (.ptr _ _ _ _ rfl)) (.cons _ _ _ _ .same (.cons _ _ _ _ .same .nil))) (.old 16 16 _ _ _ rfl rfl (.vars _ _ (zb rfl)) .nil) rfl (zu m 0 0 h) ?_
  rintro H r ⟨rfl,rfl⟩ _ _
  refine ⟨rfl,.inl rfl,?_⟩
  show ARet ..
  exact ⟨[(16,16)],[(16,.vars (muV (endM m 0 0)))],[],.nil,.old 16 16 _ _ _ rfl rfl (.vars _ _ (zb rfl)) .nil,rfl,rfl,rfl⟩
theorem zns (m:Mu) (k c:Int) (h:0 < m.t.ops.length) (hx:m.op=⟨k,1,2,c⟩):Spec X 152 [(16,.vars (muV m))] [.c (.ptr 16 0 0)] (fun H r=>H=[(16,.vars (muV (sameM m)))]∧r = .tup []):=by
 refine zd X_ok Tryz.f152 (by kernel_rfl) (by kernel_rfl) (by kernel_rfl) fun hb hH=>⟨rfl,?_⟩
 have hE:zap m=0:=by unfold zap;rw [hx];rfl
 unfold sameM
 rw [hE]
 show ACall ..
 refine za (zY m _ h hx) rfl ?_
 show ADCall ..
 refine .mk _ _ (zC m 1) rfl ?_
 show ADCall ..
 refine .mk _ _ (zC m 2) rfl ?_
 show ADCall ..
 refine .mk _ _ (zS (zA 1) (zA 2)) rfl ?_
 show ABr (zJ (zA 1) (zA 2) == 0) _ _
 rw [show (zJ (zA 1) (zA 2) == 0)=true from rfl]
 show ABr ..
 refine ⟨fun _=>?_,fun h=>absurd h (by decide)⟩
 show AOb ..
 refine ⟨by show (0:Int)≤1∧(1:Int) < 4;decide,?_⟩
 show AOb ..
 refine ⟨by show (0:Int)≤2∧(2:Int) < 4;decide,?_⟩
 show ABr (m.t.r1 == m.t.r2) _ _
 by_cases h1:m.t.r1=m.t.r2
 ·rw [show (m.t.r1 == m.t.r2)=true by simpa using h1,if_pos ⟨rfl,by first | (rw [hx];done) | (rw [hx];exact h1)⟩]
  show ABr ..
  refine ⟨fun _=>?_,fun h=>absurd h (by decide)⟩
  show ACall ..
  refine .hand [(16,16)] [(16,.vars (muV m))] [.c (.ptr 16 0 0),.int 0,.int 1] _ (.cons _ _ _ _ (.c _ _ (.ptr _ _ _ _ rfl)) (.cons _ _ _ _ .same (.cons _ _ _ _ .same .nil))) (.old 16 16 _ _ _ rfl rfl (.vars _ _ (zb rfl)) .nil) rfl (zu m 0 1 h) ?_
  rintro H r ⟨rfl,rfl⟩ _ _
  refine ⟨rfl,.inl rfl,?_⟩
  show ARet ..
  exact ⟨[(16,16)],[(16,.vars (muV (endM m 0 1)))],[],.nil,.old 16 16 _ _ _ rfl rfl (.vars _ _ (zb rfl)) .nil,rfl,rfl,rfl⟩
 ·rw [show (m.t.r1 == m.t.r2)=false by simpa using h1,if_neg (fun e=>h1 (by first | rfl | (rw [hx] at e;exact e.2)))]
  show ABr ..
  refine ⟨fun h=>absurd h (by decide),fun _=>?_⟩
  show ACall ..
  refine .hand [(16,16)] [(16,.vars (muV m))] [.c (.ptr 16 0 0),.int 0,.int 0] _ (.cons _ _ _ _ (.c _ _ (.ptr _ _ _ _ rfl)) (.cons _ _ _ _ .same (.cons _ _ _ _ .same .nil))) (.old 16 16 _ _ _ rfl rfl (.vars _ _ (zb rfl)) .nil) rfl (zu m 0 0 h) ?_
  rintro H r ⟨rfl,rfl⟩ _ _
  refine ⟨rfl,.inl rfl,?_⟩
  show ARet ..
  exact ⟨[(16,16)],[(16,.vars (muV (endM m 0 0)))],[],.nil,.old 16 16 _ _ _ rfl rfl (.vars _ _ (zb rfl)) .nil,rfl,rfl,rfl⟩
theorem zmd (m:Mu) (k c:Int) (h:0 < m.t.ops.length) (hx:m.op=⟨k,1,3,c⟩):Spec X 152 [(16,.vars (muV m))] [.c (.ptr 16 0 0)] (fun H r=>H=[(16,.vars (muV (sameM m)))]∧r = .tup []):=by
 refine zd X_ok Tryz.f152 (by kernel_rfl) (by kernel_rfl) (by kernel_rfl) fun hb hH=>⟨rfl,?_⟩
 have hE:zap m=0:=by unfold zap;rw [hx];rfl
 unfold sameM
 rw [hE]
 show ACall ..
 refine za (zY m _ h hx) rfl ?_
 show ADCall ..
 refine .mk _ _ (zC m 1) rfl ?_
 show ADCall ..
 refine .mk _ _ (zC m 3) rfl ?_
 show ADCall ..
 refine .mk _ _ (zS (zA 1) (zA 3)) rfl ?_
 show ABr (zJ (zA 1) (zA 3) == 0) _ _
 rw [show (zJ (zA 1) (zA 3) == 0)=true from rfl]
 show ABr ..
 refine ⟨fun _=>?_,fun h=>absurd h (by decide)⟩
 show AOb ..
 refine ⟨by show (0:Int)≤1∧(1:Int) < 4;decide,?_⟩
 show AOb ..
 refine ⟨by show (0:Int)≤3∧(3:Int) < 4;decide,?_⟩
 show ABr (m.t.r1 == m.t.r3) _ _
 by_cases h1:m.t.r1=m.t.r3
 ·rw [show (m.t.r1 == m.t.r3)=true by simpa using h1,if_pos ⟨rfl,by first | (rw [hx];done) | (rw [hx];exact h1)⟩]
  show ABr ..
  refine ⟨fun _=>?_,fun h=>absurd h (by decide)⟩
  show ACall ..
  refine .hand [(16,16)] [(16,.vars (muV m))] [.c (.ptr 16 0 0),.int 0,.int 1] _ (.cons _ _ _ _ (.c _ _ (.ptr _ _ _ _ rfl)) (.cons _ _ _ _ .same (.cons _ _ _ _ .same .nil))) (.old 16 16 _ _ _ rfl rfl (.vars _ _ (zb rfl)) .nil) rfl (zu m 0 1 h) ?_
  rintro H r ⟨rfl,rfl⟩ _ _
  refine ⟨rfl,.inl rfl,?_⟩
  show ARet ..
  exact ⟨[(16,16)],[(16,.vars (muV (endM m 0 1)))],[],.nil,.old 16 16 _ _ _ rfl rfl (.vars _ _ (zb rfl)) .nil,rfl,rfl,rfl⟩
 ·rw [show (m.t.r1 == m.t.r3)=false by simpa using h1,if_neg (fun e=>h1 (by first | rfl | (rw [hx] at e;exact e.2)))]
  show ABr ..
  refine ⟨fun h=>absurd h (by decide),fun _=>?_⟩
  show ACall ..
  refine .hand [(16,16)] [(16,.vars (muV m))] [.c (.ptr 16 0 0),.int 0,.int 0] _ (.cons _ _ _ _ (.c _ _ (.ptr _ _ _ _ rfl)) (.cons _ _ _ _ .same (.cons _ _ _ _ .same .nil))) (.old 16 16 _ _ _ rfl rfl (.vars _ _ (zb rfl)) .nil) rfl (zu m 0 0 h) ?_
  rintro H r ⟨rfl,rfl⟩ _ _
  refine ⟨rfl,.inl rfl,?_⟩
  show ARet ..
  exact ⟨[(16,16)],[(16,.vars (muV (endM m 0 0)))],[],.nil,.old 16 16 _ _ _ rfl rfl (.vars _ _ (zb rfl)) .nil,rfl,rfl,rfl⟩
theorem znu (m:Mu) (k c:Int) (h:0 < m.t.ops.length) (hx:m.op=⟨k,2,0,c⟩):Spec X 152 [(16,.vars (muV m))] [.c (.ptr 16 0 0)] (fun H r=>H=[(16,.vars (muV (sameM m)))]∧r = .tup []):=by
 refine zd X_ok Tryz.f152 (by kernel_rfl) (by kernel_rfl) (by kernel_rfl) fun hb hH=>⟨rfl,?_⟩
 have hE:zap m=0:=by unfold zap;rw [hx];rfl
 unfold sameM
 rw [hE]
 show ACall ..
 refine za (zY m _ h hx) rfl ?_
 show ADCall ..
 refine .mk _ _ (zC m 2) rfl ?_
 show ADCall ..
 refine .mk _ _ (zC m 0) rfl ?_
 show ADCall ..
 refine .mk _ _ (zS (zA 2) (zA 0)) rfl ?_
 show ABr (zJ (zA 2) (zA 0) == 0) _ _
 rw [show (zJ (zA 2) (zA 0) == 0)=true from rfl]
 show ABr ..
 refine ⟨fun _=>?_,fun h=>absurd h (by decide)⟩
 show AOb ..
 refine ⟨by show (0:Int)≤2∧(2:Int) < 4;decide,?_⟩
 show AOb ..
 refine ⟨by show (0:Int)≤0∧(0:Int) < 4;decide,?_⟩
 show ABr (m.t.r2 == m.t.r0) _ _
 by_cases h1:m.t.r2=m.t.r0
 ·rw [show (m.t.r2 == m.t.r0)=true by simpa using h1,if_pos ⟨rfl,by first | (rw [hx];done) | (rw [hx];exact h1)⟩]
  show ABr ..
  refine ⟨fun _=>?_,fun h=>absurd h (by decide)⟩
  show ACall ..
  refine .hand [(16,16)] [(16,.vars (muV m))] [.c (.ptr 16 0 0),.int 0,.int 1] _ (.cons _ _ _ _ (.c _ _ (.ptr _ _ _ _ rfl)) (.cons _ _ _ _ .same (.cons _ _ _ _ .same .nil))) (.old 16 16 _ _ _ rfl rfl (.vars _ _ (zb rfl)) .nil) rfl (zu m 0 1 h) ?_
  rintro H r ⟨rfl,rfl⟩ _ _
  refine ⟨rfl,.inl rfl,?_⟩
  show ARet ..
  exact ⟨[(16,16)],[(16,.vars (muV (endM m 0 1)))],[],.nil,.old 16 16 _ _ _ rfl rfl (.vars _ _ (zb rfl)) .nil,rfl,rfl,rfl⟩
 ·rw [show (m.t.r2 == m.t.r0)=false by simpa using h1,if_neg (fun e=>h1 (by first | rfl | (rw [hx] at e;exact e.2)))]
  show ABr ..
  refine ⟨fun h=>absurd h (by decide),fun _=>?_⟩
  show ACall ..
  refine .hand [(16,16)] [(16,.vars (muV m))] [.c (.ptr 16 0 0),.int 0,.int 0] _ (.cons _ _ _ _ (.c _ _ (.ptr _ _ _ _ rfl)) (.cons _ _ _ _ .same (.cons _ _ _ _ .same .nil))) (.old 16 16 _ _ _ rfl rfl (.vars _ _ (zb rfl)) .nil) rfl (zu m 0 0 h) ?_
  rintro H r ⟨rfl,rfl⟩ _ _
  refine ⟨rfl,.inl rfl,?_⟩
  show ARet ..
  exact ⟨[(16,16)],[(16,.vars (muV (endM m 0 0)))],[],.nil,.old 16 16 _ _ _ rfl rfl (.vars _ _ (zb rfl)) .nil,rfl,rfl,rfl⟩
theorem znq (m:Mu) (k c:Int) (h:0 < m.t.ops.length) (hx:m.op=⟨k,2,1,c⟩):Spec X 152 [(16,.vars (muV m))] [.c (.ptr 16 0 0)] (fun H r=>H=[(16,.vars (muV (sameM m)))]∧r = .tup []):=by
 refine zd X_ok Tryz.f152 (by kernel_rfl) (by kernel_rfl) (by kernel_rfl) fun hb hH=>⟨rfl,?_⟩
 have hE:zap m=0:=by unfold zap;rw [hx];rfl
 unfold sameM
 rw [hE]
 show ACall ..
 refine za (zY m _ h hx) rfl ?_
 show ADCall ..
 refine .mk _ _ (zC m 2) rfl ?_
 show ADCall ..
 refine .mk _ _ (zC m 1) rfl ?_
 show ADCall ..
 refine .mk _ _ (zS (zA 2) (zA 1)) rfl ?_
 show ABr (zJ (zA 2) (zA 1) == 0) _ _
 rw [show (zJ (zA 2) (zA 1) == 0)=true from rfl]
 show ABr ..
 refine ⟨fun _=>?_,fun h=>absurd h (by decide)⟩
 show AOb ..
 refine ⟨by show (0:Int)≤2∧(2:Int) < 4;decide,?_⟩
 show AOb ..
 refine ⟨by show (0:Int)≤1∧(1:Int) < 4;decide,?_⟩
 show ABr (m.t.r2 == m.t.r1) _ _
 by_cases h1:m.t.r2=m.t.r1
 ·rw [show (m.t.r2 == m.t.r1)=true by simpa using h1,if_pos ⟨rfl,by first | (rw [hx];done) | (rw [hx];exact h1)⟩]
  show ABr ..
  refine ⟨fun _=>?_,fun h=>absurd h (by decide)⟩
  show ACall ..
  refine .hand [(16,16)] [(16,.vars (muV m))] [.c (.ptr 16 0 0),.int 0,.int 1] _ (.cons _ _ _ _ (.c _ _ (.ptr _ _ _ _ rfl)) (.cons _ _ _ _ .same (.cons _ _ _ _ .same .nil))) (.old 16 16 _ _ _ rfl rfl (.vars _ _ (zb rfl)) .nil) rfl (zu m 0 1 h) ?_
  rintro H r ⟨rfl,rfl⟩ _ _
  refine ⟨rfl,.inl rfl,?_⟩
  show ARet ..
  exact ⟨[(16,16)],[(16,.vars (muV (endM m 0 1)))],[],.nil,.old 16 16 _ _ _ rfl rfl (.vars _ _ (zb rfl)) .nil,rfl,rfl,rfl⟩
 ·rw [show (m.t.r2 == m.t.r1)=false by simpa using h1,if_neg (fun e=>h1 (by first | rfl | (rw [hx] at e;exact e.2)))]
  show ABr ..
  refine ⟨fun h=>absurd h (by decide),fun _=>?_⟩
  show ACall ..
  refine .hand [(16,16)] [(16,.vars (muV m))] [.c (.ptr 16 0 0),.int 0,.int 0] _ (.cons _ _ _ _ (.c _ _ (.ptr _ _ _ _ rfl)) (.cons _ _ _ _ .same (.cons _ _ _ _ .same .nil))) (.old 16 16 _ _ _ rfl rfl (.vars _ _ (zb rfl)) .nil) rfl (zu m 0 0 h) ?_
  rintro H r ⟨rfl,rfl⟩ _ _
  refine ⟨rfl,.inl rfl,?_⟩
  show ARet ..
  exact ⟨[(16,16)],[(16,.vars (muV (endM m 0 0)))],[],.nil,.old 16 16 _ _ _ rfl rfl (.vars _ _ (zb rfl)) .nil,rfl,rfl,rfl⟩
theorem zny (m:Mu) (k c:Int) (h:0 < m.t.ops.length) (hx:m.op=⟨k,2,2,c⟩):Spec X 152 [(16,.vars (muV m))] [.c (.ptr 16 0 0)] (fun H r=>H=[(16,.vars (muV (sameM m)))]∧r = .tup []):=by
 refine zd X_ok Tryz.f152 (by kernel_rfl) (by kernel_rfl) (by kernel_rfl) fun hb hH=>⟨rfl,?_⟩
 have hE:zap m=0:=by unfold zap;rw [hx];rfl
 unfold sameM
 rw [hE]
 show ACall ..
 refine za (zY m _ h hx) rfl ?_
 show ADCall ..
 refine .mk _ _ (zC m 2) rfl ?_
 show ADCall ..
 refine .mk _ _ (zC m 2) rfl ?_
 show ADCall ..
 refine .mk _ _ (zS (zA 2) (zA 2)) rfl ?_
 show ABr (zJ (zA 2) (zA 2) == 0) _ _
 rw [show (zJ (zA 2) (zA 2) == 0)=true from rfl]
 show ABr ..
 refine ⟨fun _=>?_,fun h=>absurd h (by decide)⟩
 show AOb ..
 refine ⟨by show (0:Int)≤2∧(2:Int) < 4;decide,?_⟩
 show AOb ..
 refine ⟨by show (0:Int)≤2∧(2:Int) < 4;decide,?_⟩
 show ABr (m.t.r2 == m.t.r2) _ _
 by_cases h1:m.t.r2=m.t.r2
 ·rw [show (m.t.r2 == m.t.r2)=true by simpa using h1,if_pos ⟨rfl,by first | (rw [hx];done) | (rw [hx];exact h1)⟩]
  show ABr ..
  refine ⟨fun _=>?_,fun h=>absurd h (by decide)⟩
  show ACall ..
  refine .hand [(16,16)] [(16,.vars (muV m))] [.c (.ptr 16 0 0),.int 0,.int 1] _ (.cons _ _ _ _ (.c _ _ (.ptr _ _ _ _ rfl)) (.cons _ _ _ _ .same (.cons _ _ _ _ .same .nil))) (.old 16 16 _ _ _ rfl rfl (.vars _ _ (zb rfl)) .nil) rfl (zu m 0 1 h) ?_
  rintro H r ⟨rfl,rfl⟩ _ _
  refine ⟨rfl,.inl rfl,?_⟩
  show ARet ..
  exact ⟨[(16,16)],[(16,.vars (muV (endM m 0 1)))],[],.nil,.old 16 16 _ _ _ rfl rfl (.vars _ _ (zb rfl)) .nil,rfl,rfl,rfl⟩
 ·rw [show (m.t.r2 == m.t.r2)=false by simpa using h1,if_neg (fun e=>h1 (by first | rfl | (rw [hx] at e;exact e.2)))]
  show ABr ..
  refine ⟨fun h=>absurd h (by decide),fun _=>?_⟩
  show ACall ..
  refine .hand [(16,16)] [(16,.vars (muV m))] [.c (.ptr 16 0 0),.int 0,.int 0] _ (.cons _ _ _ _ (.c _ _ (.ptr _ _ _ _ rfl)) (.cons _ _ _ _ .same (.cons _ _ _ _ .same .nil))) (.old 16 16 _ _ _ rfl rfl (.vars _ _ (zb rfl)) .nil) rfl (zu m 0 0 h) ?_
  rintro H r ⟨rfl,rfl⟩ _ _
  refine ⟨rfl,.inl rfl,?_⟩
  show ARet ..
  exact ⟨[(16,16)],[(16,.vars (muV (endM m 0 0)))],[],.nil,.old 16 16 _ _ _ rfl rfl (.vars _ _ (zb rfl)) .nil,rfl,rfl,rfl⟩
theorem zm8 (m:Mu) (k c:Int) (h:0 < m.t.ops.length) (hx:m.op=⟨k,2,3,c⟩):Spec X 152 [(16,.vars (muV m))] [.c (.ptr 16 0 0)] (fun H r=>H=[(16,.vars (muV (sameM m)))]∧r = .tup []):=by
 refine zd X_ok Tryz.f152 (by kernel_rfl) (by kernel_rfl) (by kernel_rfl) fun hb hH=>⟨rfl,?_⟩
 have hE:zap m=0:=by unfold zap;rw [hx];rfl
 unfold sameM
 rw [hE]
 show ACall ..
 refine za (zY m _ h hx) rfl ?_
 show ADCall ..
 refine .mk _ _ (zC m 2) rfl ?_
 show ADCall ..
 refine .mk _ _ (zC m 3) rfl ?_
 show ADCall ..
 refine .mk _ _ (zS (zA 2) (zA 3)) rfl ?_
 show ABr (zJ (zA 2) (zA 3) == 0) _ _
 rw [show (zJ (zA 2) (zA 3) == 0)=true from rfl]
 show ABr ..
 refine ⟨fun _=>?_,fun h=>absurd h (by decide)⟩
 show AOb ..
 refine ⟨by show (0:Int)≤2∧(2:Int) < 4;decide,?_⟩
 show AOb ..
 refine ⟨by show (0:Int)≤3∧(3:Int) < 4;decide,?_⟩
 show ABr (m.t.r2 == m.t.r3) _ _
 by_cases h1:m.t.r2=m.t.r3
 ·rw [show (m.t.r2 == m.t.r3)=true by simpa using h1,if_pos ⟨rfl,by first | (rw [hx];done) | (rw [hx];exact h1)⟩]
  show ABr ..
  refine ⟨fun _=>?_,fun h=>absurd h (by decide)⟩
  show ACall ..
  refine .hand [(16,16)] [(16,.vars (muV m))] [.c (.ptr 16 0 0),.int 0,.int 1] _ (.cons _ _ _ _ (.c _ _ (.ptr _ _ _ _ rfl)) (.cons _ _ _ _ .same (.cons _ _ _ _ .same .nil))) (.old 16 16 _ _ _ rfl rfl (.vars _ _ (zb rfl)) .nil) rfl (zu m 0 1 h) ?_
  rintro H r ⟨rfl,rfl⟩ _ _
  refine ⟨rfl,.inl rfl,?_⟩
  show ARet ..
  exact ⟨[(16,16)],[(16,.vars (muV (endM m 0 1)))],[],.nil,.old 16 16 _ _ _ rfl rfl (.vars _ _ (zb rfl)) .nil,rfl,rfl,rfl⟩
 ·rw [show (m.t.r2 == m.t.r3)=false by simpa using h1,if_neg (fun e=>h1 (by first | rfl | (rw [hx] at e;exact e.2)))]
  show ABr ..
  refine ⟨fun h=>absurd h (by decide),fun _=>?_⟩
  show ACall ..
  refine .hand [(16,16)] [(16,.vars (muV m))] [.c (.ptr 16 0 0),.int 0,.int 0] _ (.cons _ _ _ _ (.c _ _ (.ptr _ _ _ _ rfl)) (.cons _ _ _ _ .same (.cons _ _ _ _ .same .nil))) (.old 16 16 _ _ _ rfl rfl (.vars _ _ (zb rfl)) .nil) rfl (zu m 0 0 h) ?_
  rintro H r ⟨rfl,rfl⟩ _ _
  refine ⟨rfl,.inl rfl,?_⟩
  show ARet ..
  exact ⟨[(16,16)],[(16,.vars (muV (endM m 0 0)))],[],.nil,.old 16 16 _ _ _ rfl rfl (.vars _ _ (zb rfl)) .nil,rfl,rfl,rfl⟩
theorem znr (m:Mu) (k c:Int) (h:0 < m.t.ops.length) (hx:m.op=⟨k,3,0,c⟩):Spec X 152 [(16,.vars (muV m))] [.c (.ptr 16 0 0)] (fun H r=>H=[(16,.vars (muV (sameM m)))]∧r = .tup []):=by
 refine zd X_ok Tryz.f152 (by kernel_rfl) (by kernel_rfl) (by kernel_rfl) fun hb hH=>⟨rfl,?_⟩
 have hE:zap m=0:=by unfold zap;rw [hx];rfl
 unfold sameM
 rw [hE]
 show ACall ..
 refine za (zY m _ h hx) rfl ?_
 show ADCall ..
 refine .mk _ _ (zC m 3) rfl ?_
 show ADCall ..
 refine .mk _ _ (zC m 0) rfl ?_
 show ADCall ..
 refine .mk _ _ (zS (zA 3) (zA 0)) rfl ?_
 show ABr (zJ (zA 3) (zA 0) == 0) _ _
 rw [show (zJ (zA 3) (zA 0) == 0)=true from rfl]
 show ABr ..
 refine ⟨fun _=>?_,fun h=>absurd h (by decide)⟩
 show AOb ..
 refine ⟨by show (0:Int)≤3∧(3:Int) < 4;decide,?_⟩
 show AOb ..
 refine ⟨by show (0:Int)≤0∧(0:Int) < 4;decide,?_⟩
 show ABr (m.t.r3 == m.t.r0) _ _
 by_cases h1:m.t.r3=m.t.r0
 ·rw [show (m.t.r3 == m.t.r0)=true by simpa using h1,if_pos ⟨rfl,by first | (rw [hx];done) | (rw [hx];exact h1)⟩]
  show ABr ..
  refine ⟨fun _=>?_,fun h=>absurd h (by decide)⟩
  show ACall ..
  refine .hand [(16,16)] [(16,.vars (muV m))] [.c (.ptr 16 0 0),.int 0,.int 1] _ (.cons _ _ _ _ (.c _ _ (.ptr _ _ _ _ rfl)) (.cons _ _ _ _ .same (.cons _ _ _ _ .same .nil))) (.old 16 16 _ _ _ rfl rfl (.vars _ _ (zb rfl)) .nil) rfl (zu m 0 1 h) ?_
  rintro H r ⟨rfl,rfl⟩ _ _
  refine ⟨rfl,.inl rfl,?_⟩
  show ARet ..
  exact ⟨[(16,16)],[(16,.vars (muV (endM m 0 1)))],[],.nil,.old 16 16 _ _ _ rfl rfl (.vars _ _ (zb rfl)) .nil,rfl,rfl,rfl⟩
 ·rw [show (m.t.r3 == m.t.r0)=false by simpa using h1,if_neg (fun e=>h1 (by first | rfl | (rw [hx] at e;exact e.2)))]
  show ABr ..
  refine ⟨fun h=>absurd h (by decide),fun _=>?_⟩
  show ACall ..
  refine .hand [(16,16)] [(16,.vars (muV m))] [.c (.ptr 16 0 0),.int 0,.int 0] _ (.cons _ _ _ _ (.c _ _ (.ptr _ _ _ _ rfl)) (.cons _ _ _ _ .same (.cons _ _ _ _ .same .nil))) (.old 16 16 _ _ _ rfl rfl (.vars _ _ (zb rfl)) .nil) rfl (zu m 0 0 h) ?_
  rintro H r ⟨rfl,rfl⟩ _ _
  refine ⟨rfl,.inl rfl,?_⟩
  show ARet ..
  exact ⟨[(16,16)],[(16,.vars (muV (endM m 0 0)))],[],.nil,.old 16 16 _ _ _ rfl rfl (.vars _ _ (zb rfl)) .nil,rfl,rfl,rfl⟩
theorem zmw (m:Mu) (k c:Int) (h:0 < m.t.ops.length) (hx:m.op=⟨k,3,1,c⟩):Spec X 152 [(16,.vars (muV m))] [.c (.ptr 16 0 0)] (fun H r=>H=[(16,.vars (muV (sameM m)))]∧r = .tup []):=by
 refine zd X_ok Tryz.f152 (by kernel_rfl) (by kernel_rfl) (by kernel_rfl) fun hb hH=>⟨rfl,?_⟩
 have hE:zap m=0:=by unfold zap;rw [hx];rfl
 unfold sameM
 rw [hE]
 show ACall ..
 refine za (zY m _ h hx) rfl ?_
 show ADCall ..
 refine .mk _ _ (zC m 3) rfl ?_
 show ADCall ..
 refine .mk _ _ (zC m 1) rfl ?_
 show ADCall ..
 refine .mk _ _ (zS (zA 3) (zA 1)) rfl ?_
 show ABr (zJ (zA 3) (zA 1) == 0) _ _
 rw [show (zJ (zA 3) (zA 1) == 0)=true from rfl]
 show ABr ..
 refine ⟨fun _=>?_,fun h=>absurd h (by decide)⟩
 show AOb ..
 refine ⟨by show (0:Int)≤3∧(3:Int) < 4;decide,?_⟩
 show AOb ..
 refine ⟨by show (0:Int)≤1∧(1:Int) < 4;decide,?_⟩
 show ABr (m.t.r3 == m.t.r1) _ _
 by_cases h1:m.t.r3=m.t.r1
 ·rw [show (m.t.r3 == m.t.r1)=true by simpa using h1,if_pos ⟨rfl,by first | (rw [hx];done) | (rw [hx];exact h1)⟩]
  show ABr ..
  refine ⟨fun _=>?_,fun h=>absurd h (by decide)⟩
  show ACall ..
  refine .hand [(16,16)] [(16,.vars (muV m))] [.c (.ptr 16 0 0),.int 0,.int 1] _ (.cons _ _ _ _ (.c _ _ (.ptr _ _ _ _ rfl)) (.cons _ _ _ _ .same (.cons _ _ _ _ .same .nil))) (.old 16 16 _ _ _ rfl rfl (.vars _ _ (zb rfl)) .nil) rfl (zu m 0 1 h) ?_
  rintro H r ⟨rfl,rfl⟩ _ _
  refine ⟨rfl,.inl rfl,?_⟩
  show ARet ..
  exact ⟨[(16,16)],[(16,.vars (muV (endM m 0 1)))],[],.nil,.old 16 16 _ _ _ rfl rfl (.vars _ _ (zb rfl)) .nil,rfl,rfl,rfl⟩
 ·rw [show (m.t.r3 == m.t.r1)=false by simpa using h1,if_neg (fun e=>h1 (by first | rfl | (rw [hx] at e;exact e.2)))]
  show ABr ..
  refine ⟨fun h=>absurd h (by decide),fun _=>?_⟩
  show ACall ..
  refine .hand [(16,16)] [(16,.vars (muV m))] [.c (.ptr 16 0 0),.int 0,.int 0] _ (.cons _ _ _ _ (.c _ _ (.ptr _ _ _ _ rfl)) (.cons _ _ _ _ .same (.cons _ _ _ _ .same .nil))) (.old 16 16 _ _ _ rfl rfl (.vars _ _ (zb rfl)) .nil) rfl (zu m 0 0 h) ?_
  rintro H r ⟨rfl,rfl⟩ _ _
  refine ⟨rfl,.inl rfl,?_⟩
  show ARet ..
  exact ⟨[(16,16)],[(16,.vars (muV (endM m 0 0)))],[],.nil,.old 16 16 _ _ _ rfl rfl (.vars _ _ (zb rfl)) .nil,rfl,rfl,rfl⟩
theorem zm6 (m:Mu) (k c:Int) (h:0 < m.t.ops.length) (hx:m.op=⟨k,3,2,c⟩):Spec X 152 [(16,.vars (muV m))] [.c (.ptr 16 0 0)] (fun H r=>H=[(16,.vars (muV (sameM m)))]∧r = .tup []):=by
 refine zd X_ok Tryz.f152 (by kernel_rfl) (by kernel_rfl) (by kernel_rfl) fun hb hH=>⟨rfl,?_⟩
 have hE:zap m=0:=by unfold zap;rw [hx];rfl
 unfold sameM
 rw [hE]
 show ACall ..
 refine za (zY m _ h hx) rfl ?_
 show ADCall ..
 refine .mk _ _ (zC m 3) rfl ?_
 show ADCall ..
 refine .mk _ _ (zC m 2) rfl ?_
 show ADCall ..
 refine .mk _ _ (zS (zA 3) (zA 2)) rfl ?_
 show ABr (zJ (zA 3) (zA 2) == 0) _ _
 rw [show (zJ (zA 3) (zA 2) == 0)=true from rfl]
 show ABr ..
 refine ⟨fun _=>?_,fun h=>absurd h (by decide)⟩
 show AOb ..
 refine ⟨by show (0:Int)≤3∧(3:Int) < 4;decide,?_⟩
 show AOb ..
 refine ⟨by show (0:Int)≤2∧(2:Int) < 4;decide,?_⟩
 show ABr (m.t.r3 == m.t.r2) _ _
 by_cases h1:m.t.r3=m.t.r2
 ·rw [show (m.t.r3 == m.t.r2)=true by simpa using h1,if_pos ⟨rfl,by first | (rw [hx];done) | (rw [hx];exact h1)⟩]
  show ABr ..
  refine ⟨fun _=>?_,fun h=>absurd h (by decide)⟩
  show ACall ..
  refine .hand [(16,16)] [(16,.vars (muV m))] [.c (.ptr 16 0 0),.int 0,.int 1] _ (.cons _ _ _ _ (.c _ _ (.ptr _ _ _ _ rfl)) (.cons _ _ _ _ .same (.cons _ _ _ _ .same .nil))) (.old 16 16 _ _ _ rfl rfl (.vars _ _ (zb rfl)) .nil) rfl (zu m 0 1 h) ?_
  rintro H r ⟨rfl,rfl⟩ _ _
  refine ⟨rfl,.inl rfl,?_⟩
  show ARet ..
  exact ⟨[(16,16)],[(16,.vars (muV (endM m 0 1)))],[],.nil,.old 16 16 _ _ _ rfl rfl (.vars _ _ (zb rfl)) .nil,rfl,rfl,rfl⟩
 ·rw [show (m.t.r3 == m.t.r2)=false by simpa using h1,if_neg (fun e=>h1 (by first | rfl | (rw [hx] at e;exact e.2)))]
  show ABr ..
  refine ⟨fun h=>absurd h (by decide),fun _=>?_⟩
  show ACall ..
  refine .hand [(16,16)] [(16,.vars (muV m))] [.c (.ptr 16 0 0),.int 0,.int 0] _ (.cons _ _ _ _ (.c _ _ (.ptr _ _ _ _ rfl)) (.cons _ _ _ _ .same (.cons _ _ _ _ .same .nil))) (.old 16 16 _ _ _ rfl rfl (.vars _ _ (zb rfl)) .nil) rfl (zu m 0 0 h) ?_
  rintro H r ⟨rfl,rfl⟩ _ _
  refine ⟨rfl,.inl rfl,?_⟩
  show ARet ..
  exact ⟨[(16,16)],[(16,.vars (muV (endM m 0 0)))],[],.nil,.old 16 16 _ _ _ rfl rfl (.vars _ _ (zb rfl)) .nil,rfl,rfl,rfl⟩
theorem znD (m:Mu) (k c:Int) (h:0 < m.t.ops.length) (hx:m.op=⟨k,3,3,c⟩):Spec X 152 [(16,.vars (muV m))] [.c (.ptr 16 0 0)] (fun H r=>H=[(16,.vars (muV (sameM m)))]∧r = .tup []):=by
 refine zd X_ok Tryz.f152 (by kernel_rfl) (by kernel_rfl) (by kernel_rfl) fun hb hH=>⟨rfl,?_⟩
 have hE:zap m=0:=by unfold zap;rw [hx];rfl
 unfold sameM
 rw [hE]
 show ACall ..
 refine za (zY m _ h hx) rfl ?_
 show ADCall ..
 refine .mk _ _ (zC m 3) rfl ?_
 show ADCall ..
 refine .mk _ _ (zC m 3) rfl ?_
 show ADCall ..
 refine .mk _ _ (zS (zA 3) (zA 3)) rfl ?_
 show ABr (zJ (zA 3) (zA 3) == 0) _ _
 rw [show (zJ (zA 3) (zA 3) == 0)=true from rfl]
 show ABr ..
 refine ⟨fun _=>?_,fun h=>absurd h (by decide)⟩
 show AOb ..
 refine ⟨by show (0:Int)≤3∧(3:Int) < 4;decide,?_⟩
 show AOb ..
 refine ⟨by show (0:Int)≤3∧(3:Int) < 4;decide,?_⟩
 show ABr (m.t.r3 == m.t.r3) _ _
 by_cases h1:m.t.r3=m.t.r3
 ·rw [show (m.t.r3 == m.t.r3)=true by simpa using h1,if_pos ⟨rfl,by first | (rw [hx];done) | (rw [hx];exact h1)⟩]
  show ABr ..
  refine ⟨fun _=>?_,fun h=>absurd h (by decide)⟩
  show ACall ..
  refine .hand [(16,16)] [(16,.vars (muV m))] [.c (.ptr 16 0 0),.int 0,.int 1] _ (.cons _ _ _ _ (.c _ _ (.ptr _ _ _ _ rfl)) (.cons _ _ _ _ .same (.cons _ _ _ _ .same .nil))) (.old 16 16 _ _ _ rfl rfl (.vars _ _ (zb rfl)) .nil) rfl (zu m 0 1 h) ?_
  rintro H r ⟨rfl,rfl⟩ _ _
  refine ⟨rfl,.inl rfl,?_⟩
  show ARet ..
  exact ⟨[(16,16)],[(16,.vars (muV (endM m 0 1)))],[],.nil,.old 16 16 _ _ _ rfl rfl (.vars _ _ (zb rfl)) .nil,rfl,rfl,rfl⟩
 ·rw [show (m.t.r3 == m.t.r3)=false by simpa using h1,if_neg (fun e=>h1 (by first | rfl | (rw [hx] at e;exact e.2)))]
  show ABr ..
  refine ⟨fun h=>absurd h (by decide),fun _=>?_⟩
  show ACall ..
  refine .hand [(16,16)] [(16,.vars (muV m))] [.c (.ptr 16 0 0),.int 0,.int 0] _ (.cons _ _ _ _ (.c _ _ (.ptr _ _ _ _ rfl)) (.cons _ _ _ _ .same (.cons _ _ _ _ .same .nil))) (.old 16 16 _ _ _ rfl rfl (.vars _ _ (zb rfl)) .nil) rfl (zu m 0 0 h) ?_
  rintro H r ⟨rfl,rfl⟩ _ _
  refine ⟨rfl,.inl rfl,?_⟩
  show ARet ..
  exact ⟨[(16,16)],[(16,.vars (muV (endM m 0 0)))],[],.nil,.old 16 16 _ _ _ rfl rfl (.vars _ _ (zb rfl)) .nil,rfl,rfl,rfl⟩
theorem zpR (m:Mu) (h:0 < m.t.ops.length) (hE:zap m≠0):Spec X 152 [(16,.vars (muV m))] [.c (.ptr 16 0 0)] (fun H r=>H=[(16,.vars (muV (sameM m)))]∧r = .tup []):=by
 refine zd X_ok Tryz.f152 (by kernel_rfl) (by kernel_rfl) (by kernel_rfl) fun hb hH=>⟨rfl,?_⟩
 unfold sameM
 rw [if_neg (fun k=>hE k.1)]
 show ACall ..
 refine za (za2 m h) rfl ?_
 show ADCall ..
 refine .mk _ _ (zC m m.op.a) rfl ?_
 show ADCall ..
 refine .mk _ _ (zC m m.op.b) rfl ?_
 show ADCall ..
 refine .mk _ _ (zS (zA m.op.a) (zA m.op.b)) rfl ?_
 show ABr (zap m == 0) _ _
 rw [show (zap m == 0)=false by simpa using hE]
 show ABr ..
 refine ⟨fun h=>absurd h (by decide),fun _=>?_⟩
 show ABr ..
 refine ⟨fun h=>absurd h (by decide),fun _=>?_⟩
 show ACall ..
 refine .hand [(16,16)] [(16,.vars (muV m))] [.c (.ptr 16 0 0),.int (zap m),.int 0] _ (.cons _ _ _ _ (.c _ _ (.ptr _ _ _ _ rfl)) (.cons _ _ _ _ .same (.cons _ _ _ _ .same .nil))) (.old 16 16 _ _ _ rfl rfl (.vars _ _ (zb rfl)) .nil) rfl (zu m (zap m) 0 h) ?_
 rintro H r ⟨rfl,rfl⟩ _ _
 refine ⟨rfl,.inl rfl,?_⟩
 show ARet ..
 exact ⟨[(16,16)],[(16,.vars (muV (endM m (zap m) 0)))],[],.nil,.old 16 16 _ _ _ rfl rfl (.vars _ _ (zb rfl)) .nil,rfl,rfl,rfl⟩
theorem zqs (m:Mu) (h:0 < m.t.ops.length):Spec X 152 [(16,.vars (muV m))] [.c (.ptr 16 0 0)] (fun H r=>H=[(16,.vars (muV (sameM m)))]∧r = .tup []):=by
 by_cases hE:zap m=0
 ·have h2:zA m.op.a=0∧zA m.op.b=0:=zi8 (by unfold zap at hE;exact fun k=>k hE)
  unfold zA at h2
  have ha:0≤m.op.a∧m.op.a≤3:=Classical.byContradiction fun k=>by rw [if_neg k] at h2;exact absurd h2.1 (by decide)
  have hb:0≤m.op.b∧m.op.b≤3:=Classical.byContradiction fun k=>by rw [if_neg k] at h2;exact absurd h2.2 (by decide)
  have key:∀ i j:Int,m.op.a=i→m.op.b=j→m.op=⟨m.op.kind,i,j,m.op.c⟩:=fun i j e1 e2=>by rw [← e1,← e2]
  have ea:m.op.a=0∨m.op.a=1∨m.op.a=2∨m.op.a=3:=by omega
  have eb:m.op.b=0∨m.op.b=1∨m.op.b=2∨m.op.b=3:=by omega
  rcases ea with e1 | e1 | e1 | e1 <;> rcases eb with e2 | e2 | e2 | e2
  ·exact znv m _ _ h (key _ _ e1 e2)
  ·exact zm9 m _ _ h (key _ _ e1 e2)
  ·exact zmt m _ _ h (key _ _ e1 e2)
  ·exact zmf m _ _ h (key _ _ e1 e2)
  ·exact zmG m _ _ h (key _ _ e1 e2)
  ·exact zm2 m _ _ h (key _ _ e1 e2)
  ·exact zns m _ _ h (key _ _ e1 e2)
  ·exact zmd m _ _ h (key _ _ e1 e2)
  ·exact znu m _ _ h (key _ _ e1 e2)
  ·exact znq m _ _ h (key _ _ e1 e2)
  ·exact zny m _ _ h (key _ _ e1 e2)
  ·exact zm8 m _ _ h (key _ _ e1 e2)
  ·exact znr m _ _ h (key _ _ e1 e2)
  ·exact zmw m _ _ h (key _ _ e1 e2)
  ·exact zm6 m _ _ h (key _ _ e1 e2)
  ·exact znD m _ _ h (key _ _ e1 e2)
 ·exact zpR m h hE
end Go.Abs
namespace Go.Abs
open Go.Proofs Go.Proofs.YtlankjlnnimdoaaGreatDoor
set_option maxRecDepth 60000
set_option maxHeartbeats 4000000
def mu0 (g:Hp) (c:Col) (t:Thread):Mu:=⟨g,c,t,Res.zero,false⟩
def zgi (m:Mu):TV:=.tup [m.h.tv,m.c.tv,m.t.tv,.dagg (EK.enc .res m.r),.bo m.told]
theorem zpD (g:Hp) (c:Col) (t:Thread) (hs:g.small) (hlm:(zm (zdV g [t.cache])).length≤most) (hw:c.work.length < most) (ht:t.ok) (hm:zgC g t=false):Spec X 116 [] [g.tv,c.tv,t.tv] (Ret [] (zgi (mutS g c t))):=by
 refine zd X_ok Tryz.f116 (by kernel_rfl) (by kernel_rfl) (by kernel_rfl) fun hb hH=>⟨rfl,?_⟩
 unfold mutS
 rw [if_neg (by rw [hm];decide)]
 show ACall ..
 refine .mk _ (zbK g c t hs (Nat.le_of_lt hw) ht) fun H r ⟨eH,er⟩ _ _=>⟨.inl rfl,?_⟩
 subst eH er
 show ACall ..
 refine za ((zbL g t hlm).uz) rfl ?_
 rw [hm]
 show ABr ..
 refine ⟨fun h=>absurd h (by decide),fun _=>?_⟩
 show ARet ..
 exact zi rfl ⟨rfl,rfl⟩
theorem zpw (g:Hp) (c:Col) (t:Thread) (a b d:Int) (hs:g.small) (hl:g.light) (hlm:(zm (zdV g [t.cache])).length≤most) (hw:c.work.length < most) (ht:t.ok) (hco:t.cache.ok) (hm:zgC g t=true) (h:0 < t.ops.length) (hp:0≤t.pc∧t.pc≤4) (hx:(mu0 g c t).op=⟨0,a,b,d⟩):Spec X 116 [] [g.tv,c.tv,t.tv] (Ret [] (zgi (createM (mu0 g c t)))):=by
 refine zd X_ok Tryz.f116 (by kernel_rfl) (by kernel_rfl) (by kernel_rfl) fun hb hH=>⟨rfl,?_⟩
 show ACall ..
 refine .mk _ (zbK g c t hs (Nat.le_of_lt hw) ht) fun H r ⟨eH,er⟩ _ _=>⟨.inl rfl,?_⟩
 subst eH er
 show ACall ..
 refine za ((zbL g t hlm).uz) rfl ?_
 rw [hm]
 show ABr ..
 refine ⟨fun _=>?_,fun h=>absurd h (by decide)⟩
 show ACall ..
 refine za (zY (mu0 g c t) _ h hx) rfl ?_
 show ABr (bif decide ((0:Int)≥0) then decide ((0:Int) < 7) else false) _ _
 show ABr ..
 refine ⟨fun _=>?_,fun h=>absurd h (by decide)⟩
 show AOb ..
 refine ⟨by show (0:Int)≤0∧(0:Int) < 7;decide,?_⟩
 show ACall ..
 refine .hand [(_,16)] [(16,.vars (muV (mu0 g c t)))] [.c (.ptr 16 0 0)] _ (.cons _ _ _ _ (.c _ _ (.ptr1 _ _ _ _)) .nil) (.old 16 _ _ _ _ rfl rfl (.vars _ _ (zb rfl)) .nil) rfl (zmP (mu0 g c t) hs ht hco hlm h) ?_
 rintro H r ⟨rfl,rfl⟩ _ _
 refine ⟨rfl,.inl rfl,?_⟩
 generalize createM (mu0 g c t)=m'
 show ARet ..
 exact zi rfl ⟨rfl,rfl⟩
theorem zoB (g:Hp) (c:Col) (t:Thread) (a b d:Int) (hs:g.small) (hl:g.light) (hlm:(zm (zdV g [t.cache])).length≤most) (hw:c.work.length < most) (ht:t.ok) (hco:t.cache.ok) (hm:zgC g t=true) (h:0 < t.ops.length) (hp:0≤t.pc∧t.pc≤4) (hx:(mu0 g c t).op=⟨1,a,b,d⟩):Spec X 116 [] [g.tv,c.tv,t.tv] (Ret [] (zgi (loadM (mu0 g c t)))):=by
 refine zd X_ok Tryz.f116 (by kernel_rfl) (by kernel_rfl) (by kernel_rfl) fun hb hH=>⟨rfl,?_⟩
 show ACall ..
 refine .mk _ (zbK g c t hs (Nat.le_of_lt hw) ht) fun H r ⟨eH,er⟩ _ _=>⟨.inl rfl,?_⟩
 subst eH er
 show ACall ..
 refine za ((zbL g t hlm).uz) rfl ?_
 rw [hm]
 show ABr ..
 refine ⟨fun _=>?_,fun h=>absurd h (by decide)⟩
 show ACall ..
 refine za (zY (mu0 g c t) _ h hx) rfl ?_
 show ABr (bif decide ((1:Int)≥0) then decide ((1:Int) < 7) else false) _ _
 show ABr ..
 refine ⟨fun _=>?_,fun h=>absurd h (by decide)⟩
 show AOb ..
 refine ⟨by show (0:Int)≤1∧(1:Int) < 7;decide,?_⟩
 show ACall ..
 refine .hand [(_,16)] [(16,.vars (muV (mu0 g c t)))] [.c (.ptr 16 0 0)] _ (.cons _ _ _ _ (.c _ _ (.ptr1 _ _ _ _)) .nil) (.old 16 _ _ _ _ rfl rfl (.vars _ _ (zb rfl)) .nil) rfl (zqT (mu0 g c t) hl ht h) ?_
 rintro H r ⟨rfl,rfl⟩ _ _
 refine ⟨rfl,.inl rfl,?_⟩
 generalize loadM (mu0 g c t)=m'
 show ARet ..
 exact zi rfl ⟨rfl,rfl⟩
theorem zn1 (g:Hp) (c:Col) (t:Thread) (a b d:Int) (hs:g.small) (hl:g.light) (hlm:(zm (zdV g [t.cache])).length≤most) (hw:c.work.length < most) (ht:t.ok) (hco:t.cache.ok) (hm:zgC g t=true) (h:0 < t.ops.length) (hp:0≤t.pc∧t.pc≤4) (hx:(mu0 g c t).op=⟨2,a,b,d⟩):Spec X 116 [] [g.tv,c.tv,t.tv] (Ret [] (zgi (storeM (mu0 g c t)))):=by
 refine zd X_ok Tryz.f116 (by kernel_rfl) (by kernel_rfl) (by kernel_rfl) fun hb hH=>⟨rfl,?_⟩
 show ACall ..
 refine .mk _ (zbK g c t hs (Nat.le_of_lt hw) ht) fun H r ⟨eH,er⟩ _ _=>⟨.inl rfl,?_⟩
 subst eH er
 show ACall ..
 refine za ((zbL g t hlm).uz) rfl ?_
 rw [hm]
 show ABr ..
 refine ⟨fun _=>?_,fun h=>absurd h (by decide)⟩
 show ACall ..
 refine za (zY (mu0 g c t) _ h hx) rfl ?_
 show ABr (bif decide ((2:Int)≥0) then decide ((2:Int) < 7) else false) _ _
 show ABr ..
 refine ⟨fun _=>?_,fun h=>absurd h (by decide)⟩
 show AOb ..
 refine ⟨by show (0:Int)≤2∧(2:Int) < 7;decide,?_⟩
 show ACall ..
 refine .hand [(_,16)] [(16,.vars (muV (mu0 g c t)))] [.c (.ptr 16 0 0)] _ (.cons _ _ _ _ (.c _ _ (.ptr1 _ _ _ _)) .nil) (.old 16 _ _ _ _ rfl rfl (.vars _ _ (zb rfl)) .nil) rfl (znF (mu0 g c t) hl hs hw h hp) ?_
 rintro H r ⟨rfl,rfl⟩ _ _
 refine ⟨rfl,.inl rfl,?_⟩
 generalize storeM (mu0 g c t)=m'
 show ARet ..
 exact zi rfl ⟨rfl,rfl⟩
theorem zoC (g:Hp) (c:Col) (t:Thread) (a b d:Int) (hs:g.small) (hl:g.light) (hlm:(zm (zdV g [t.cache])).length≤most) (hw:c.work.length < most) (ht:t.ok) (hco:t.cache.ok) (hm:zgC g t=true) (h:0 < t.ops.length) (hp:0≤t.pc∧t.pc≤4) (hx:(mu0 g c t).op=⟨3,a,b,d⟩):Spec X 116 [] [g.tv,c.tv,t.tv] (Ret [] (zgi (dropM (mu0 g c t)))):=by
 refine zd X_ok Tryz.f116 (by kernel_rfl) (by kernel_rfl) (by kernel_rfl) fun hb hH=>⟨rfl,?_⟩
 show ACall ..
 refine .mk _ (zbK g c t hs (Nat.le_of_lt hw) ht) fun H r ⟨eH,er⟩ _ _=>⟨.inl rfl,?_⟩
 subst eH er
 show ACall ..
 refine za ((zbL g t hlm).uz) rfl ?_
 rw [hm]
 show ABr ..
 refine ⟨fun _=>?_,fun h=>absurd h (by decide)⟩
 show ACall ..
 refine za (zY (mu0 g c t) _ h hx) rfl ?_
 show ABr (bif decide ((3:Int)≥0) then decide ((3:Int) < 7) else false) _ _
 show ABr ..
 refine ⟨fun _=>?_,fun h=>absurd h (by decide)⟩
 show AOb ..
 refine ⟨by show (0:Int)≤3∧(3:Int) < 7;decide,?_⟩
 show ACall ..
 refine .hand [(_,16)] [(16,.vars (muV (mu0 g c t)))] [.c (.ptr 16 0 0)] _ (.cons _ _ _ _ (.c _ _ (.ptr1 _ _ _ _)) .nil) (.old 16 _ _ _ _ rfl rfl (.vars _ _ (zb rfl)) .nil) rfl (zrz (mu0 g c t) ht h) ?_
 rintro H r ⟨rfl,rfl⟩ _ _
 refine ⟨rfl,.inl rfl,?_⟩
 generalize dropM (mu0 g c t)=m'
 show ARet ..
 exact zi rfl ⟨rfl,rfl⟩
theorem zoN (g:Hp) (c:Col) (t:Thread) (a b d:Int) (hs:g.small) (hl:g.light) (hlm:(zm (zdV g [t.cache])).length≤most) (hw:c.work.length < most) (ht:t.ok) (hco:t.cache.ok) (hm:zgC g t=true) (h:0 < t.ops.length) (hp:0≤t.pc∧t.pc≤4) (hx:(mu0 g c t).op=⟨4,a,b,d⟩):Spec X 116 [] [g.tv,c.tv,t.tv] (Ret [] (zgi (sameM (mu0 g c t)))):=by
 refine zd X_ok Tryz.f116 (by kernel_rfl) (by kernel_rfl) (by kernel_rfl) fun hb hH=>⟨rfl,?_⟩
 show ACall ..
 refine .mk _ (zbK g c t hs (Nat.le_of_lt hw) ht) fun H r ⟨eH,er⟩ _ _=>⟨.inl rfl,?_⟩
 subst eH er
 show ACall ..
 refine za ((zbL g t hlm).uz) rfl ?_
 rw [hm]
 show ABr ..
 refine ⟨fun _=>?_,fun h=>absurd h (by decide)⟩
 show ACall ..
 refine za (zY (mu0 g c t) _ h hx) rfl ?_
 show ABr (bif decide ((4:Int)≥0) then decide ((4:Int) < 7) else false) _ _
 show ABr ..
 refine ⟨fun _=>?_,fun h=>absurd h (by decide)⟩
 show AOb ..
 refine ⟨by show (0:Int)≤4∧(4:Int) < 7;decide,?_⟩
 show ACall ..
 refine .hand [(_,16)] [(16,.vars (muV (mu0 g c t)))] [.c (.ptr 16 0 0)] _ (.cons _ _ _ _ (.c _ _ (.ptr1 _ _ _ _)) .nil) (.old 16 _ _ _ _ rfl rfl (.vars _ _ (zb rfl)) .nil) rfl (zqs (mu0 g c t) h) ?_
 rintro H r ⟨rfl,rfl⟩ _ _
 refine ⟨rfl,.inl rfl,?_⟩
 generalize sameM (mu0 g c t)=m'
 show ARet ..
 exact zi rfl ⟨rfl,rfl⟩
theorem zpj (g:Hp) (c:Col) (t:Thread) (a b d:Int) (hs:g.small) (hl:g.light) (hlm:(zm (zdV g [t.cache])).length≤most) (hw:c.work.length < most) (ht:t.ok) (hco:t.cache.ok) (hm:zgC g t=true) (h:0 < t.ops.length) (hp:0≤t.pc∧t.pc≤4) (hx:(mu0 g c t).op=⟨5,a,b,d⟩):Spec X 116 [] [g.tv,c.tv,t.tv] (Ret [] (zgi (sizeM (mu0 g c t)))):=by
 refine zd X_ok Tryz.f116 (by kernel_rfl) (by kernel_rfl) (by kernel_rfl) fun hb hH=>⟨rfl,?_⟩
 show ACall ..
 refine .mk _ (zbK g c t hs (Nat.le_of_lt hw) ht) fun H r ⟨eH,er⟩ _ _=>⟨.inl rfl,?_⟩
 subst eH er
 show ACall ..
 refine za ((zbL g t hlm).uz) rfl ?_
 rw [hm]
 show ABr ..
 refine ⟨fun _=>?_,fun h=>absurd h (by decide)⟩
 show ACall ..
 refine za (zY (mu0 g c t) _ h hx) rfl ?_
 show ABr (bif decide ((5:Int)≥0) then decide ((5:Int) < 7) else false) _ _
 show ABr ..
 refine ⟨fun _=>?_,fun h=>absurd h (by decide)⟩
 show AOb ..
 refine ⟨by show (0:Int)≤5∧(5:Int) < 7;decide,?_⟩
 show ACall ..
 refine .hand [(_,16)] [(16,.vars (muV (mu0 g c t)))] [.c (.ptr 16 0 0)] _ (.cons _ _ _ _ (.c _ _ (.ptr1 _ _ _ _)) .nil) (.old 16 _ _ _ _ rfl rfl (.vars _ _ (zb rfl)) .nil) rfl (zqf (mu0 g c t) hl h) ?_
 rintro H r ⟨rfl,rfl⟩ _ _
 refine ⟨rfl,.inl rfl,?_⟩
 generalize sizeM (mu0 g c t)=m'
 show ARet ..
 exact zi rfl ⟨rfl,rfl⟩
theorem zpy (g:Hp) (c:Col) (t:Thread) (a b d:Int) (hs:g.small) (hl:g.light) (hlm:(zm (zdV g [t.cache])).length≤most) (hw:c.work.length < most) (ht:t.ok) (hco:t.cache.ok) (hm:zgC g t=true) (h:0 < t.ops.length) (hp:0≤t.pc∧t.pc≤4) (hx:(mu0 g c t).op=⟨6,a,b,d⟩):Spec X 116 [] [g.tv,c.tv,t.tv] (Ret [] (zgi (exitM (mu0 g c t)))):=by
 refine zd X_ok Tryz.f116 (by kernel_rfl) (by kernel_rfl) (by kernel_rfl) fun hb hH=>⟨rfl,?_⟩
 show ACall ..
 refine .mk _ (zbK g c t hs (Nat.le_of_lt hw) ht) fun H r ⟨eH,er⟩ _ _=>⟨.inl rfl,?_⟩
 subst eH er
 show ACall ..
 refine za ((zbL g t hlm).uz) rfl ?_
 rw [hm]
 show ABr ..
 refine ⟨fun _=>?_,fun h=>absurd h (by decide)⟩
 show ACall ..
 refine za (zY (mu0 g c t) _ h hx) rfl ?_
 show ABr (bif decide ((6:Int)≥0) then decide ((6:Int) < 7) else false) _ _
 show ABr ..
 refine ⟨fun _=>?_,fun h=>absurd h (by decide)⟩
 show AOb ..
 refine ⟨by show (0:Int)≤6∧(6:Int) < 7;decide,?_⟩
 show ACall ..
 refine .hand [(_,16)] [(16,.vars (muV (mu0 g c t)))] [.c (.ptr 16 0 0)] _ (.cons _ _ _ _ (.c _ _ (.ptr1 _ _ _ _)) .nil) (.old 16 _ _ _ _ rfl rfl (.vars _ _ (zb rfl)) .nil) rfl (zq5 (mu0 g c t) hs hlm h) ?_
 rintro H r ⟨rfl,rfl⟩ _ _
 refine ⟨rfl,.inl rfl,?_⟩
 generalize exitM (mu0 g c t)=m'
 show ARet ..
 exact zi rfl ⟨rfl,rfl⟩
theorem zn5 (g:Hp) (c:Col) (t:Thread) (hs:g.small) (hl:g.light) (hlm:(zm (zdV g [t.cache])).length≤most) (hw:c.work.length < most) (ht:t.ok) (hco:t.cache.ok) (hm:zgC g t=true) (h:0 < t.ops.length) (hp:0≤t.pc∧t.pc≤4) (hx:¬ (0≤(mu0 g c t).op.kind∧(mu0 g c t).op.kind≤6)):Spec X 116 [] [g.tv,c.tv,t.tv] (Ret [] (zgi (endM (mu0 g c t) 1 0))):=by
 refine zd X_ok Tryz.f116 (by kernel_rfl) (by kernel_rfl) (by kernel_rfl) fun hb hH=>⟨rfl,?_⟩
 show ACall ..
 refine .mk _ (zbK g c t hs (Nat.le_of_lt hw) ht) fun H r ⟨eH,er⟩ _ _=>⟨.inl rfl,?_⟩
 subst eH er
 show ACall ..
 refine za ((zbL g t hlm).uz) rfl ?_
 rw [hm]
 show ABr ..
 refine ⟨fun _=>?_,fun h=>absurd h (by decide)⟩
 show ACall ..
 refine za (za2 (mu0 g c t) h) rfl ?_
 show ABr (bif decide ((mu0 g c t).op.kind≥0) then decide ((mu0 g c t).op.kind < 7) else false) _ _
 rw [show (bif decide ((mu0 g c t).op.kind≥0) then decide ((mu0 g c t).op.kind < 7) else false)=false by
  by_cases h1:(mu0 g c t).op.kind≥0
  ·rw [decide_eq_true h1,decide_eq_false (by omega)];rfl
  ·rw [decide_eq_false h1];rfl]
 show ABr ..
 refine ⟨fun h=>absurd h (by decide),fun _=>?_⟩
 show ACall ..
 refine .hand [(_,16)] [(16,.vars (muV (mu0 g c t)))] [.c (.ptr 16 0 0)] _ (.cons _ _ _ _ (.c _ _ (.ptr1 _ _ _ _)) .nil) (.old 16 _ _ _ _ rfl rfl (.vars _ _ (zb rfl)) .nil) rfl (zsl (mu0 g c t) h) ?_
 rintro H r ⟨rfl,rfl⟩ _ _
 refine ⟨rfl,.inl rfl,?_⟩
 generalize endM (mu0 g c t) 1 0=m'
 show ARet ..
 exact zi rfl ⟨rfl,rfl⟩
theorem zrf (g:Hp) (c:Col) (t:Thread) (hs:g.small) (hl:g.light) (hlm:(zm (zdV g [t.cache])).length≤most) (hw:c.work.length < most) (ht:t.ok) (hco:t.cache.ok):Spec X 116 [] [g.tv,c.tv,t.tv] (Ret [] (zgi (mutS g c t))):=by
 by_cases hm:zgC g t=true
 ·have hm':=hm
  unfold zgC at hm'
  simp only [Bool.and_eq_true,decide_eq_true_eq] at hm'
  obtain ⟨hT,_,h,_⟩:=hm'
  have hp:0≤t.pc∧t.pc≤4:=⟨hT.2.2.2.2.1,hT.2.2.2.2.2.1⟩
  have hS:mutS g c t=zgl (mu0 g c t):=by unfold mutS;rw [if_pos hm];rfl
  rw [hS]
  by_cases hk:0≤(mu0 g c t).op.kind∧(mu0 g c t).op.kind≤6
  ·have key:∀ i:Int,(mu0 g c t).op.kind=i→(mu0 g c t).op=⟨i,(mu0 g c t).op.a,(mu0 g c t).op.b,(mu0 g c t).op.c⟩:=fun i e=>by rw [← e]
   have e:(mu0 g c t).op.kind=0∨(mu0 g c t).op.kind=1∨(mu0 g c t).op.kind=2∨(mu0 g c t).op.kind=3∨(mu0 g c t).op.kind=4∨(mu0 g c t).op.kind=5∨(mu0 g c t).op.kind=6:=by omega
   unfold zgl
   rcases e with e | e | e | e | e | e | e
   ·rw [e];exact zpw g c t _ _ _ hs hl hlm hw ht hco hm h hp (key _ e)
   ·rw [e];exact zoB g c t _ _ _ hs hl hlm hw ht hco hm h hp (key _ e)
   ·rw [e];exact zn1 g c t _ _ _ hs hl hlm hw ht hco hm h hp (key _ e)
   ·rw [e];exact zoC g c t _ _ _ hs hl hlm hw ht hco hm h hp (key _ e)
   ·rw [e];exact zoN g c t _ _ _ hs hl hlm hw ht hco hm h hp (key _ e)
   ·rw [e];exact zpj g c t _ _ _ hs hl hlm hw ht hco hm h hp (key _ e)
   ·rw [e];exact zpy g c t _ _ _ hs hl hlm hw ht hco hm h hp (key _ e)
  ·unfold zgl
   rw [if_neg (by omega),if_neg (by omega),if_neg (by omega),if_neg (by omega),if_neg (by omega),if_neg (by omega),if_neg (by omega)]
   exact zn5 g c t hs hl hlm hw ht hco hm h hp hk
 ·exact zpD g c t hs hlm hw ht (by simpa using hm)
end Go.Abs
namespace Go.Abs
open Go.Proofs Go.Proofs.YtlankjlnnimdoaaGreatDoor
set_option maxRecDepth 60000
set_option maxHeartbeats 4000000
abbrev rnL (w:Wd):zg:=[(16,.vars (wdO w 17 0)),(17,.data .thread w.t),(18,.dead),(0,.data .res w.log)]
theorem zqI (w : Wd) (n : Int) (hF : w.Fit) : Spec X 74 (rnH w) [.c (.ptr 16 0 0), .int n] (fun H r => (H = rnH (stepW w n) ∨ H = rnL (stepW w n)) ∧ r = .int (zb4 w n)) := by
  refine zd X_ok Tryz.f74 (by kernel_rfl) (by kernel_rfl) (by kernel_rfl) fun hb hH => ⟨rfl, ?_⟩
  have hg := hF.light
  have h1' := fun (t : Thread) (ht : t ∈ w.t) => hF.one ht
  obtain ⟨hs, hw, hl, hth, hfl, hlog⟩ := hF
  show ACall _ _ _ _ _ _
  refine za (zog w n) rfl ?_
  cases hi : ze3 w n with
  | false =>
    have e1 : stepW w n = w := by unfold stepW; rw [if_pos hi]
    have e2 : zb4 w n = 3 := by unfold zb4; rw [if_pos hi]
    rw [e1, e2]
    show ABr _ _ _
    refine ⟨fun _ => ?_, fun h => absurd h (by decide)⟩
    show ARet _ _ _
    exact ⟨[(16, 16), (17, 17), (18, 18)], rnH (w), [.int (3)], .cons _ _ _ _ .same .nil, .old 16 16 _ _ _ rfl rfl (.vars _ _ (by repeat (first | exact .nil | refine .cons _ _ _ _ (.d _) ?_ | refine .cons _ _ _ _ (.own _ _ rfl) ?_))) (.old 17 17 _ _ _ rfl rfl (.data_eq rfl) (.old 18 18 _ _ _ rfl rfl (.data_eq rfl) .nil)), rfl, .inl rfl, rfl⟩
  | true =>
    have hr : 0 ≤ n ∧ n < (w.t.length : Int) := of_decide_eq_true hi
    have hlt : n.toNat < w.t.length := by omega
    show ABr _ _ _
    refine ⟨fun h => absurd h (by decide), fun _ => ?_⟩
    show AOb _ _
    refine ⟨by exact hr, ?_⟩
    show AOb _ _
    refine ⟨by exact hlt, ?_⟩
    show ADCall _ _ _ _ _ _
    refine .mk _ _ (zkm w.c (thW w n)) rfl ?_
    show AOb _ _
    refine ⟨by exact hlt, ?_⟩
    cases hlv : (thW w n).live with
    | false =>
      have e0 : zeb w n = true := by unfold zeb; rw [hlv]; rfl
      have e1 : stepW w n = w := by unfold stepW; rw [if_neg (by rw [hi]; decide), if_pos e0]
      have e2 : zb4 w n = 3 := by unfold zb4; rw [if_neg (by rw [hi]; decide), if_pos e0]
      rw [e1, e2]
      show ABr (!(thW w n).live) _ _
      rw [hlv]
      show ABr _ _ _
      refine ⟨fun _ => ?_, fun h => absurd h (by decide)⟩
      show ABr (!(thW w n).live) _ _
      rw [hlv]
      show ABr _ _ _
      refine ⟨fun _ => ?_, fun h => absurd h (by decide)⟩
      show ARet _ _ _
      exact ⟨[(16, 16), (17, 17), (18, 18)], rnH (w), [.int (3)], .cons _ _ _ _ .same .nil, .old 16 16 _ _ _ rfl rfl (.vars _ _ (by repeat (first | exact .nil | refine .cons _ _ _ _ (.d _) ?_ | refine .cons _ _ _ _ (.own _ _ rfl) ?_))) (.old 17 17 _ _ _ rfl rfl (.data_eq rfl) (.old 18 18 _ _ _ rfl rfl (.data_eq rfl) .nil)), rfl, .inl rfl, rfl⟩
    | true =>
      show ABr (!(thW w n).live) _ _
      rw [hlv]
      show ABr _ _ _
      refine ⟨fun h => absurd h (by decide), fun _ => ?_⟩
      show AOb _ _
      refine ⟨by exact fun _ => hlt, ?_⟩
      show ABr (bif !zaK w.c (thW w n) then (((thW w n).ops.length : Int) == 0) else false) _ _
      cases ha : zaK w.c (thW w n) with
      | true =>
        have e0 : zeb w n = false := by unfold zeb; rw [hlv, ha]; rfl
        have e1 : stepW w n = ⟨ansG w.h w.c (thW w n), ansC w.h w.c (thW w n), w.t.set n.toNat (ansT w.c (thW w n)), w.log⟩ := by unfold stepW; rw [if_neg (by rw [hi]; decide), if_neg (by rw [e0]; decide), if_pos ha]
        have e2 : zb4 w n = 0 := by unfold zb4; rw [if_neg (by rw [hi]; decide), if_neg (by rw [e0]; decide)]
        rw [e1, e2]
        show ABr false _ _
        show ABr _ _ _
        refine ⟨fun h => absurd h (by decide), fun _ => ?_⟩
        show ABr _ _ _
        refine ⟨fun _ => ?_, fun h => absurd h (by decide)⟩
        show AOb _ _
        refine ⟨by exact hlt, ?_⟩
        show ADCall _ _ _ _ _ _
        refine .mk _ _ (zn0 w.h w.c (thW w n) hg hs hw (hth _ (zdj hi)).1) rfl ?_
        generalize ansG w.h w.c (thW w n) = g'
        generalize ansC w.h w.c (thW w n) = c'
        generalize ansT w.c (thW w n) = u
        show AOb _ _
        refine ⟨by exact hlt, ?_⟩
        show ARet _ _ _
        exact ⟨[(16, 16), (17, 17), (18, 18)], rnH ((⟨g', c', w.t.set n.toNat u, w.log⟩ : Wd)), [.int (0)], .cons _ _ _ _ .same .nil, .old 16 16 _ _ _ rfl rfl (.vars _ _ (by repeat (first | exact .nil | refine .cons _ _ _ _ (.d _) ?_ | refine .cons _ _ _ _ (.own _ _ rfl) ?_))) (.old 17 17 _ _ _ rfl rfl (.data_eq rfl) (.old 18 18 _ _ _ rfl rfl (.data_eq rfl) .nil)), rfl, .inl rfl, rfl⟩
      | false =>
        by_cases ho : (thW w n).ops.length = 0
        · have e0 : zeb w n = true := by unfold zeb; rw [hlv, ha, decide_eq_true ho]; rfl
          have e1 : stepW w n = w := by unfold stepW; rw [if_neg (by rw [hi]; decide), if_pos e0]
          have e2 : zb4 w n = 3 := by unfold zb4; rw [if_neg (by rw [hi]; decide), if_pos e0]
          rw [e1, e2, show (((thW w n).ops.length : Int) == 0) = true by rw [ho]; rfl]
          show ABr _ _ _
          refine ⟨fun _ => ?_, fun h => absurd h (by decide)⟩
          show ARet _ _ _
          exact ⟨[(16, 16), (17, 17), (18, 18)], rnH (w), [.int (3)], .cons _ _ _ _ .same .nil, .old 16 16 _ _ _ rfl rfl (.vars _ _ (by repeat (first | exact .nil | refine .cons _ _ _ _ (.d _) ?_ | refine .cons _ _ _ _ (.own _ _ rfl) ?_))) (.old 17 17 _ _ _ rfl rfl (.data_eq rfl) (.old 18 18 _ _ _ rfl rfl (.data_eq rfl) .nil)), rfl, .inl rfl, rfl⟩
        · have e0 : zeb w n = false := by unfold zeb; rw [hlv, ha, decide_eq_false ho]; rfl
          have e1 : stepW w n = ⟨(mutS w.h w.c (thW w n)).h, (mutS w.h w.c (thW w n)).c, w.t.set n.toNat (mutS w.h w.c (thW w n)).t, zou w n (mutS w.h w.c (thW w n))⟩ := by unfold stepW; rw [if_neg (by rw [hi]; decide), if_neg (by rw [e0]; decide), if_neg (by rw [ha]; decide)]
          have e2 : zb4 w n = 0 := by unfold zb4; rw [if_neg (by rw [hi]; decide), if_neg (by rw [e0]; decide)]
          rw [e1, e2, show (((thW w n).ops.length : Int) == 0) = false by rw [beq_eq_false_iff_ne]; omega]
          show ABr _ _ _
          refine ⟨fun h => absurd h (by decide), fun _ => ?_⟩
          show ABr _ _ _
          refine ⟨fun h => absurd h (by decide), fun _ => ?_⟩
          show AOb _ _
          refine ⟨by exact hlt, ?_⟩
          show ADCall _ _ _ _ _ _
          refine .mk _ _ (zrf w.h w.c (thW w n) hs hg (h1' _ (zdj hi)) hw (hth _ (zdj hi)).1 (hth _ (zdj hi)).2) rfl ?_
          generalize mutS w.h w.c (thW w n) = m
          show AOb _ _
          refine ⟨by exact hlt, ?_⟩
          show ABr m.told _ _
          cases hm : m.told with
          | false =>
            have e3 : zou w n m = w.log := by unfold zou; rw [hm]; rfl
            rw [e3]
            show ABr _ _ _
            refine ⟨fun h => absurd h (by decide), fun _ => ?_⟩
            show ARet _ _ _
            exact ⟨[(16, 16), (17, 17), (18, 18)], rnH ((⟨m.h, m.c, w.t.set n.toNat m.t, w.log⟩ : Wd)), [.int (0)], .cons _ _ _ _ .same .nil, .old 16 16 _ _ _ rfl rfl (.vars _ _ (by repeat (first | exact .nil | refine .cons _ _ _ _ (.d _) ?_ | refine .cons _ _ _ _ (.own _ _ rfl) ?_))) (.old 17 17 _ _ _ rfl rfl (.data_eq rfl) (.old 18 18 _ _ _ rfl rfl (.data_eq rfl) .nil)), rfl, .inl rfl, rfl⟩
          | true =>
            have e3 : zou w n m = w.log ++ [{ m.r with thread := n }] := by unfold zou; rw [hm]; rfl
            rw [e3]
            show ABr _ _ _
            refine ⟨fun _ => ?_, fun h => absurd h (by decide)⟩
            show AOb (w.log.length + 1 ≤ most) _
            refine ⟨hlog, ?_⟩
            show ARet _ _ _
            exact ⟨[(16, 16), (17, 17), (18, 18), (3200, 0)], rnL ((⟨m.h, m.c, w.t.set n.toNat m.t, w.log ++ [{ m.r with thread := n }]⟩ : Wd)), [.int (0)], .cons _ _ _ _ .same .nil, .old 16 16 _ _ _ rfl rfl (.vars _ _ (by repeat (first | exact .nil | refine .cons _ _ _ _ (.d _) ?_ | refine .cons _ _ _ _ (.own _ _ rfl) ?_))) (.old 17 17 _ _ _ rfl rfl (.data_eq rfl) (.old 18 18 _ _ _ rfl rfl .dead (.old 0 3200 _ _ _ rfl rfl (.data_eq rfl) .nil))), rfl, .inr rfl, rfl⟩
end Go.Abs
namespace Go.Abs
open Go.Proofs Go.Proofs.YtlankjlnnimdoaaGreatDoor
set_option maxRecDepth 60000
set_option maxHeartbeats 4000000
theorem zsp (w:Wd) (n:Int) (hF:w.Fit):Spec X 37 (rnH w) [.c (.ptr 16 0 0),.dagg (EK.enc .pair ⟨0,n⟩)] (fun H r=>(H=rnH (stepW w n)∨H=rnL (stepW w n))∧r = .int (zb4 w n)):=by
 refine zd X_ok Tryz.f37 (by kernel_rfl) (by kernel_rfl) (by kernel_rfl) fun hb hH=>⟨rfl,?_⟩
 show ABr ..
 refine ⟨fun h=>absurd h (by decide),fun _=>?_⟩
 show ACall ..
 refine .hand [(16,16),(17,17),(18,18)] (rnH w) [.c (.ptr 16 0 0),.int n] _ (.cons _ _ _ _ (.c _ _ (.ptr _ _ _ _ rfl)) (.cons _ _ _ _ .same .nil)) (.old 16 16 _ _ _ rfl rfl (.vars _ _ (by repeat (first | exact .nil | refine .cons _ _ _ _ (.d _) ?_ | refine .cons _ _ _ _ (.own _ _ rfl) ?_))) (.old 17 17 _ _ _ rfl rfl (.data_eq rfl) (.old 18 18 _ _ _ rfl rfl (.data_eq rfl) .nil))) rfl (zqI w n hF) ?_
 rintro H r ⟨hH | hH,rfl⟩ _ _
 ·subst hH
  refine ⟨rfl,.inl rfl,?_⟩
  generalize stepW w n=w'
  show ARet ..
  exact ⟨[(16,16),(17,17),(18,18)],rnH (w'),[.int (zb4 w n)],.cons _ _ _ _ .same .nil,.old 16 16 _ _ _ rfl rfl (.vars _ _ (by repeat (first | exact .nil | refine .cons _ _ _ _ (.d _) ?_ | refine .cons _ _ _ _ (.own _ _ rfl) ?_))) (.old 17 17 _ _ _ rfl rfl (.data_eq rfl) (.old 18 18 _ _ _ rfl rfl (.data_eq rfl) .nil)),rfl,.inl rfl,rfl⟩
 ·subst hH
  refine ⟨rfl,.inl rfl,?_⟩
  generalize stepW w n=w'
  show ARet ..
  exact ⟨[(16,16),(17,17),(18,18),(1120,0)],rnL w',[.int (zb4 w n)],.cons _ _ _ _ .same .nil,.old 16 16 _ _ _ rfl rfl (.vars _ _ (by repeat (first | exact .nil | refine .cons _ _ _ _ (.d _) ?_ | refine .cons _ _ _ _ (.own _ _ rfl) ?_))) (.old 17 17 _ _ _ rfl rfl (.data_eq rfl) (.old 18 18 _ _ _ rfl rfl .dead (.old 0 1120 _ _ _ rfl rfl (.data_eq rfl) .nil))),rfl,.inr rfl,rfl⟩
theorem zta (w:Wd) (n:Int) (hF:w.Fit):Spec X 37 (rnH w) [.c (.ptr 16 0 0),.dagg (EK.enc .pair ⟨1,n⟩)] (fun H r=>H=rnF (colW w)∧r = .int 0):=by
 refine zd X_ok Tryz.f37 (by kernel_rfl) (by kernel_rfl) (by kernel_rfl) fun hb hH=>⟨rfl,?_⟩
 show ABr ..
 refine ⟨fun h=>absurd h (by decide),fun _=>?_⟩
 show ACall ..
 refine .hand [(16,16),(17,17),(18,18)] (rnH w) [.c (.ptr 16 0 0),.int n] _ (.cons _ _ _ _ (.c _ _ (.ptr _ _ _ _ rfl)) (.cons _ _ _ _ .same .nil)) (.old 16 16 _ _ _ rfl rfl (.vars _ _ (by repeat (first | exact .nil | refine .cons _ _ _ _ (.d _) ?_ | refine .cons _ _ _ _ (.own _ _ rfl) ?_))) (.old 17 17 _ _ _ rfl rfl (.data_eq rfl) (.old 18 18 _ _ _ rfl rfl (.data_eq rfl) .nil))) rfl (ztk w n hF) ?_
 rintro H r ⟨rfl,rfl⟩ _ _
 refine ⟨rfl,.inl rfl,?_⟩
 generalize colW w=w'
 show ARet ..
 exact ⟨[(16,16),(17,17),(18,18)],rnF (w'),[.int (0)],.cons _ _ _ _ .same .nil,.old 16 16 _ _ _ rfl rfl (.vars _ _ (by repeat (first | exact .nil | refine .cons _ _ _ _ (.d _) ?_ | refine .cons _ _ _ _ (.own _ _ rfl) ?_))) (.old 17 17 _ _ _ rfl rfl .dead (.old 18 18 _ _ _ rfl rfl (.data_eq rfl) .nil)),rfl,rfl,rfl⟩
theorem zs0 (w:Wd) (n:Int):Spec X 37 (rnH w) [.c (.ptr 16 0 0),.dagg (EK.enc .pair ⟨2,n⟩)] (fun H r=>H=rnH (startW w false)∧r = .int (zaz w.c)):=by
 refine zd X_ok Tryz.f37 (by kernel_rfl) (by kernel_rfl) (by kernel_rfl) fun hb hH=>⟨rfl,?_⟩
 show ABr ..
 refine ⟨fun h=>absurd h (by decide),fun _=>?_⟩
 show ACall ..
 refine .hand [(16,16),(17,17),(18,18)] (rnH w) [.c (.ptr 16 0 0),.int n] _ (.cons _ _ _ _ (.c _ _ (.ptr _ _ _ _ rfl)) (.cons _ _ _ _ .same .nil)) (.old 16 16 _ _ _ rfl rfl (.vars _ _ (by repeat (first | exact .nil | refine .cons _ _ _ _ (.d _) ?_ | refine .cons _ _ _ _ (.own _ _ rfl) ?_))) (.old 17 17 _ _ _ rfl rfl (.data_eq rfl) (.old 18 18 _ _ _ rfl rfl (.data_eq rfl) .nil))) rfl (zoA w n) ?_
 rintro H r ⟨rfl,rfl⟩ _ _
 refine ⟨rfl,.inl rfl,?_⟩
 generalize startW w false=w'
 show ARet ..
 exact ⟨[(16,16),(17,17),(18,18)],rnH (w'),[.int (zaz w.c)],.cons _ _ _ _ .same .nil,.old 16 16 _ _ _ rfl rfl (.vars _ _ (by repeat (first | exact .nil | refine .cons _ _ _ _ (.d _) ?_ | refine .cons _ _ _ _ (.own _ _ rfl) ?_))) (.old 17 17 _ _ _ rfl rfl (.data_eq rfl) (.old 18 18 _ _ _ rfl rfl (.data_eq rfl) .nil)),rfl,rfl,rfl⟩
theorem zs7 (w:Wd) (n:Int):Spec X 37 (rnH w) [.c (.ptr 16 0 0),.dagg (EK.enc .pair ⟨3,n⟩)] (fun H r=>H=rnH (startW w true)∧r = .int (zaz w.c)):=by
 refine zd X_ok Tryz.f37 (by kernel_rfl) (by kernel_rfl) (by kernel_rfl) fun hb hH=>⟨rfl,?_⟩
 show ABr ..
 refine ⟨fun h=>absurd h (by decide),fun _=>?_⟩
 show ACall ..
 refine .hand [(16,16),(17,17),(18,18)] (rnH w) [.c (.ptr 16 0 0),.int n] _ (.cons _ _ _ _ (.c _ _ (.ptr _ _ _ _ rfl)) (.cons _ _ _ _ .same .nil)) (.old 16 16 _ _ _ rfl rfl (.vars _ _ (by repeat (first | exact .nil | refine .cons _ _ _ _ (.d _) ?_ | refine .cons _ _ _ _ (.own _ _ rfl) ?_))) (.old 17 17 _ _ _ rfl rfl (.data_eq rfl) (.old 18 18 _ _ _ rfl rfl (.data_eq rfl) .nil))) rfl (zob w n) ?_
 rintro H r ⟨rfl,rfl⟩ _ _
 refine ⟨rfl,.inl rfl,?_⟩
 generalize startW w true=w'
 show ARet ..
 exact ⟨[(16,16),(17,17),(18,18)],rnH (w'),[.int (zaz w.c)],.cons _ _ _ _ .same .nil,.old 16 16 _ _ _ rfl rfl (.vars _ _ (by repeat (first | exact .nil | refine .cons _ _ _ _ (.d _) ?_ | refine .cons _ _ _ _ (.own _ _ rfl) ?_))) (.old 17 17 _ _ _ rfl rfl (.data_eq rfl) (.old 18 18 _ _ _ rfl rfl (.data_eq rfl) .nil)),rfl,rfl,rfl⟩
theorem zsE (w:Wd) (n:Int) (hF:w.Fit):Spec X 37 (rnH w) [.c (.ptr 16 0 0),.dagg (EK.enc .pair ⟨4,n⟩)] (fun H r=>H=rnH (beginW w n)∧r = .int (beginWE w n)):=by
 refine zd X_ok Tryz.f37 (by kernel_rfl) (by kernel_rfl) (by kernel_rfl) fun hb hH=>⟨rfl,?_⟩
 show ABr ..
 refine ⟨fun h=>absurd h (by decide),fun _=>?_⟩
 show ACall ..
 refine .hand [(16,16),(17,17),(18,18)] (rnH w) [.c (.ptr 16 0 0),.int n] _ (.cons _ _ _ _ (.c _ _ (.ptr _ _ _ _ rfl)) (.cons _ _ _ _ .same .nil)) (.old 16 16 _ _ _ rfl rfl (.vars _ _ (by repeat (first | exact .nil | refine .cons _ _ _ _ (.d _) ?_ | refine .cons _ _ _ _ (.own _ _ rfl) ?_))) (.old 17 17 _ _ _ rfl rfl (.data_eq rfl) (.old 18 18 _ _ _ rfl rfl (.data_eq rfl) .nil))) rfl (zpO w n hF) ?_
 rintro H r ⟨rfl,rfl⟩ _ _
 refine ⟨rfl,.inl rfl,?_⟩
 generalize beginW w n=w'
 generalize beginWE w n=e'
 show ARet ..
 exact ⟨[(16,16),(17,17),(18,18)],rnH (w'),[.int (e')],.cons _ _ _ _ .same .nil,.old 16 16 _ _ _ rfl rfl (.vars _ _ (by repeat (first | exact .nil | refine .cons _ _ _ _ (.d _) ?_ | refine .cons _ _ _ _ (.own _ _ rfl) ?_))) (.old 17 17 _ _ _ rfl rfl (.data_eq rfl) (.old 18 18 _ _ _ rfl rfl (.data_eq rfl) .nil)),rfl,rfl,rfl⟩
theorem zsP (w:Wd) (k:Nat) (n:Int):Spec X 37 (rnH w) [.c (.ptr 16 0 0),.dagg (EK.enc .pair ⟨Int.ofNat (k+5),n⟩)] (fun H r=>H=rnH w∧r = .int 1):=by
 refine zd X_ok Tryz.f37 (by kernel_rfl) (by kernel_rfl) (by kernel_rfl) fun hb hH=>⟨rfl,?_⟩
 show ABr ..
 refine ⟨fun _=>?_,fun h=>absurd h (by decide)⟩
 show ARet ..
 exact ⟨[(16,16),(17,17),(18,18)],rnH (w),[.int (1)],.cons _ _ _ _ .same .nil,.old 16 16 _ _ _ rfl rfl (.vars _ _ (by repeat (first | exact .nil | refine .cons _ _ _ _ (.d _) ?_ | refine .cons _ _ _ _ (.own _ _ rfl) ?_))) (.old 17 17 _ _ _ rfl rfl (.data_eq rfl) (.old 18 18 _ _ _ rfl rfl (.data_eq rfl) .nil)),rfl,rfl,rfl⟩
theorem ztr (w:Wd) (k:Nat) (n:Int):Spec X 37 (rnH w) [.c (.ptr 16 0 0),.dagg (EK.enc .pair ⟨Int.negSucc k,n⟩)] (fun H r=>H=rnH w∧r = .int 1):=by
 refine zd X_ok Tryz.f37 (by kernel_rfl) (by kernel_rfl) (by kernel_rfl) fun hb hH=>⟨rfl,?_⟩
 show ABr ..
 refine ⟨fun _=>?_,fun h=>absurd h (by decide)⟩
 show ARet ..
 exact ⟨[(16,16),(17,17),(18,18)],rnH (w),[.int (1)],.cons _ _ _ _ .same .nil,.old 16 16 _ _ _ rfl rfl (.vars _ _ (by repeat (first | exact .nil | refine .cons _ _ _ _ (.d _) ?_ | refine .cons _ _ _ _ (.own _ _ rfl) ?_))) (.old 17 17 _ _ _ rfl rfl (.data_eq rfl) (.old 18 18 _ _ _ rfl rfl (.data_eq rfl) .nil)),rfl,rfl,rfl⟩
theorem zu5 (w : Wd) (e : Pair) (hF : w.Fit) : Spec X 37 (rnH w) [.c (.ptr 16 0 0), .dagg (EK.enc .pair e)] (fun H r => (H = rnH (doW1 w e) ∨ H = rnF (doW1 w e) ∨ H = rnL (doW1 w e)) ∧ r = .int (doE1 w e)) := by
  obtain ⟨k, n⟩ := e
  by_cases h0 : k = 0
  · subst h0
    exact Spec.weaken (zsp w n hF) fun H r ⟨h, h'⟩ => ⟨h.elim .inl fun h => .inr (.inr h), h'⟩
  · by_cases h1 : k = 1
    · subst h1
      exact Spec.weaken (zta w n hF) fun H r ⟨h, h'⟩ => ⟨.inr (.inl h), h'⟩
    · by_cases h2 : k = 2
      · subst h2
        exact Spec.weaken (zs0 w n) fun H r ⟨h, h'⟩ => ⟨.inl h, h'⟩
      · by_cases h3 : k = 3
        · subst h3
          exact Spec.weaken (zs7 w n) fun H r ⟨h, h'⟩ => ⟨.inl h, h'⟩
        · by_cases h4 : k = 4
          · subst h4
            exact Spec.weaken (zsE w n hF) fun H r ⟨h, h'⟩ => ⟨.inl h, h'⟩
          · have e1 : doW1 w ⟨k, n⟩ = w := by unfold doW1; rw [if_neg h0, if_neg h1, if_neg h2, if_neg h3, if_neg h4]
            have e2 : doE1 w ⟨k, n⟩ = 1 := by unfold doE1; rw [if_neg h0, if_neg h1, if_neg h2, if_neg h3, if_neg h4]
            rw [e1, e2]
            cases k with
            | negSucc k => exact Spec.weaken (ztr w k n) fun H r ⟨h, h'⟩ => ⟨.inl h, h'⟩
            | ofNat k =>
              obtain ⟨j, rfl⟩ : ∃ j, k = j + 5 := ⟨k - 5, by
                have a0 : k ≠ 0 := fun h => h0 (by rw [h]; rfl)
                have a1 : k ≠ 1 := fun h => h1 (by rw [h]; rfl)
                have a2 : k ≠ 2 := fun h => h2 (by rw [h]; rfl)
                have a3 : k ≠ 3 := fun h => h3 (by rw [h]; rfl)
                have a4 : k ≠ 4 := fun h => h4 (by rw [h]; rfl)
                omega⟩
              exact Spec.weaken (zsP w j n) fun H r ⟨h, h'⟩ => ⟨.inl h, h'⟩
theorem zcD (w : Wd) (e : Pair) (hF : w.Fit) : Spec X 18 [] [w.tv, .dagg (EK.enc .pair e)] (Ret [] (.tup [(doW w e).tv, .int (doWE w e)])) := by
  refine zd X_ok Tryz.f18 (by kernel_rfl) (by kernel_rfl) (by kernel_rfl) fun hb hH => ⟨rfl, ?_⟩
  show ACall _ _ _ _ _ _
  refine .mk _ (zlA w hF) fun H r ⟨eH, er⟩ _ _ => ⟨.inl rfl, ?_⟩
  subst eH er
  show ACall _ _ _ _ _ _
  refine za (zlW w (fun t ht => (hF.th t ht).1) (fun _ => hF.flat)) rfl ?_
  unfold doW doWE
  cases hm : zaO w with
  | false =>
    show ABr _ _ _
    refine ⟨fun _ => ?_, fun h => absurd h (by decide)⟩
    show ARet _ _ _
    refine ⟨[], [], [(w).tv, .int (1)], .cons _ _ _ _ (.agg _ _ ?_) (.cons _ _ _ _ .same .nil), .nil, rfl, rfl, rfl⟩
    repeat (first | exact .nil | refine .cons _ _ _ _ (.d _) ?_ | refine .cons _ _ _ _ (.frz _ _ rfl) ?_)
  | true =>
    rw [if_pos rfl, if_pos rfl]
    show ABr _ _ _
    refine ⟨fun h => absurd h (by decide), fun _ => ?_⟩
    show ACall _ _ _ _ _ _
    refine .hand [(256, 16), (192, 17), (193, 18)] (rnH w) [.c (.ptr 16 0 0), .dagg (EK.enc .pair e)] _ (.cons _ _ _ _ (.c _ _ (.ptr _ _ _ _ rfl)) (.cons _ _ _ _ (.agg _ _ (zb rfl)) .nil)) (.old 16 256 _ _ _ rfl rfl (.vars _ _ (by repeat (first | exact .nil | refine .cons _ _ _ _ (.d _) ?_ | refine .cons _ _ _ _ (.own _ _ rfl) ?_))) (.old 17 192 _ _ _ rfl rfl (.data_eq rfl) (.old 18 193 _ _ _ rfl rfl (.data_eq rfl) .nil))) rfl (zu5 w e hF) ?_
    rintro H r ⟨hH | hH | hH, rfl⟩ _ _
    · subst hH
      refine ⟨rfl, .inl rfl, ?_⟩
      generalize doW1 w e = w'
      generalize doE1 w e = e'
      show ARet _ _ _
      refine ⟨[], [], [(w').tv, .int (e')], .cons _ _ _ _ (.agg _ _ ?_) (.cons _ _ _ _ .same .nil), .nil, rfl, rfl, rfl⟩
      repeat (first | exact .nil | refine .cons _ _ _ _ (.d _) ?_ | refine .cons _ _ _ _ (.frz _ _ rfl) ?_)
    · subst hH
      refine ⟨rfl, .inl rfl, ?_⟩
      generalize doW1 w e = w'
      generalize doE1 w e = e'
      show ARet _ _ _
      refine ⟨[], [], [(w').tv, .int (e')], .cons _ _ _ _ (.agg _ _ ?_) (.cons _ _ _ _ .same .nil), .nil, rfl, rfl, rfl⟩
      repeat (first | exact .nil | refine .cons _ _ _ _ (.d _) ?_ | refine .cons _ _ _ _ (.frz _ _ rfl) ?_)
    · subst hH
      refine ⟨rfl, .inl rfl, ?_⟩
      generalize doW1 w e = w'
      generalize doE1 w e = e'
      show ARet _ _ _
      refine ⟨[], [], [(w').tv, .int (e')], .cons _ _ _ _ (.agg _ _ ?_) (.cons _ _ _ _ .same .nil), .nil, rfl, rfl, rfl⟩
      repeat (first | exact .nil | refine .cons _ _ _ _ (.d _) ?_ | refine .cons _ _ _ _ (.frz _ _ rfl) ?_)
end Go.Abs
namespace Go.Abs
open Go.Proofs Go.Proofs.YtlankjlnnimdoaaGreatDoor
set_option maxRecDepth 60000
set_option maxHeartbeats 4000000
def zss (l:List (List Op)) (x:List Op):Bool:=decide (4 < l.length∨200 < x.length)
abbrev thO (o:List Op):Thread:={ Thread.zero with ops:=o }
theorem zit (n : Int) (l : List (List Op)) : Spec X 17 [] [.int n, .c (.d (.sl .opss l))] (Ret [] (.tup [(madeW n l).tv, .int (zcT n l)])) := by
  refine zd X_ok Tryz.f17 (by kernel_rfl) (by kernel_rfl) (by kernel_rfl) fun hb hH => ⟨rfl, ?_⟩
  have hll : l.length ≤ zD := (hb (.c (.d (.sl .opss l))) (by simp)).1
  unfold zD at hll
  show ACall _ _ _ _ _ _
  refine za (zsx n) rfl ?_
  show ABr (newE n != 0) _ _
  unfold madeW zcT
  by_cases he : newE n ≠ 0
  · rw [if_pos he, if_pos he, show (newE n != 0) = true by simpa using he]
    show ABr _ _ _
    refine ⟨fun _ => ?_, fun h => absurd h (by decide)⟩
    generalize newE n = e'
    show ARet _ _ _
    refine ⟨[], [], [(Wd.zero).tv, .int (e')], .cons _ _ _ _ (.agg _ _ ?_) (.cons _ _ _ _ .same .nil), .nil, rfl, rfl, rfl⟩
    repeat (first | exact .nil | refine .cons _ _ _ _ (.d _) ?_ | refine .cons _ _ _ _ (.nilsl _) ?_ | refine .cons _ _ _ _ (.frz _ _ rfl) ?_)
  · rw [if_neg he, if_neg he, show (newE n != 0) = false by simpa using he]
    show ABr _ _ _
    refine ⟨fun h => absurd h (by decide), fun _ => ?_⟩
    generalize newH n = g
    obtain ⟨B, hB⟩ : ∃ B, B = l.any (zss l) := ⟨_, rfl⟩
    rw [show (l.any fun x => decide (4 < l.length ∨ 200 < x.length)) = B from hB.symm]
    show ∃ n, _
    refine ⟨0, ALoop.inv (ι := {i : Nat // i ≤ l.length ∧ ∀ j, j < i → zss l (l.getD j default) = false}) (fun q => ⟨[(1, (.c (.d (.sl .opss l)))), (4, .c (.ptr 0 0 0)), (8, .c (.ptr 1 0 0)), (22, (.c (.d (.sl .opss l)))), (23, .int ((l.length : Int))), (24, .int (q.1))], [(0, .vars (List.replicate 18 .any)), (1, .vars ((g.enc ++ Wd.zero.c.enc).map CV.d ++ [.own 2, .d (.sl .res [])])), (2, .data .thread ((l.take q.1).map thO))], 128⟩) (fun q => l.length - q.1) ⟨0, Nat.zero_le _, fun j hj => absurd hj (Nat.not_lt_zero j)⟩ ?_ ?_⟩
    · exact ⟨[(32, 0), (480, 1)], (by repeat' first | exact .nil | refine .cons _ _ _ ?_ ?_ | exact .c _ _ (.ptr _ _ _ _ rfl) | exact .same | exact .c _ _ (.own _ _ rfl) | exact .c _ _ (.ptr _ _ _ _ rfl) | exact .c _ _ (.frz _ _ rfl) | exact .any _), (by exact .old 0 32 _ _ _ rfl rfl (.vars _ _ (by repeat (first | exact .nil | refine .cons _ _ _ _ (.any _) ?_))) (.old 1 480 _ _ _ rfl rfl (.vars _ _ (by repeat (first | exact .nil | refine .cons _ _ _ _ (.d _) ?_ | refine .cons _ _ _ _ (.nilown _ .thread rfl rfl) ?_ | refine .cons _ _ _ _ (.nilsl _) ?_))) (.new 2 .thread _ rfl .nil))), (by rfl)⟩
    rintro ⟨i, hi, hg⟩
    show ABr (decide ((i : Int) < (l.length : Int))) _ _
    refine ⟨fun h => ?_, fun h => ?_⟩
    · have hlt : i < l.length := by simpa using h
      have wi : IntKind.i64.wrap ((i : Int) + 1) = ((i + 1 : Nat) : Int) := zad (i := i) (by unfold zD; omega)
      show AOb _ _
      refine ⟨by exact ⟨Int.natCast_nonneg _, Int.ofNat_lt.2 hlt⟩, ?_⟩
      show ABr (bif decide ((l.length : Int) > 4) then true else decide (((l.getD i default).length : Int) > 200)) _ _
      have hbb : (bif decide ((l.length : Int) > 4) then true else decide (((l.getD i default).length : Int) > 200)) = zss l (l.getD i default) := by
        unfold zss
        by_cases h4 : 4 < l.length
        · rw [decide_eq_true (show (l.length : Int) > 4 by omega), decide_eq_true (show 4 < l.length ∨ 200 < (l.getD i default).length from .inl h4)]; rfl
        · rw [decide_eq_false (show ¬ (l.length : Int) > 4 by omega)]
          show decide _ = decide _
          rw [decide_eq_decide]
          omega
      rw [hbb]
      cases hx : zss l (l.getD i default) with
      | true =>
        have hBt : B = true := by rw [hB]; exact List.any_eq_true.2 ⟨_, zcf hlt, hx⟩
        rw [if_pos hBt, if_pos hBt]
        show ABr _ _ _
        refine ⟨fun _ => ?_, fun h => absurd h (by decide)⟩
        show ARet _ _ _
        refine ⟨[], [], [(Wd.zero).tv, .int (2)], .cons _ _ _ _ (.agg _ _ ?_) (.cons _ _ _ _ .same .nil), .nil, rfl, rfl, rfl⟩
        repeat (first | exact .nil | refine .cons _ _ _ _ (.d _) ?_ | refine .cons _ _ _ _ (.nilsl _) ?_ | refine .cons _ _ _ _ (.frz _ _ rfl) ?_)
      | false =>
        have hx' := of_decide_eq_false hx
        show ABr _ _ _
        refine ⟨fun h => absurd h (by decide), fun _ => ?_⟩
        show ADCall _ _ _ _ _ _
        refine .mk _ _ (zbY (l.getD i default) (by unfold most; omega)) rfl ?_
        show AOb (((l.take i).map thO).length + 1 ≤ most) _
        refine ⟨by rw [List.length_map, List.length_take]; unfold most; omega, ?_⟩
        have hnext : ∀ j, j < i + 1 → zss l (l.getD j default) = false := fun j hj => by
          rcases Nat.lt_succ_iff_lt_or_eq.1 hj with h' | rfl
          · exact hg j h'
          · exact hx
        show ARound _ _ _ _
        exact ⟨⟨i + 1, hlt, hnext⟩, (by dsimp only; omega), [(0, 0), (1, 1), (704, 2)], (by repeat' first | exact .nil | refine .cons _ _ _ ?_ ?_ | exact .c _ _ (.ptr _ _ _ _ rfl) | exact .int_eq wi | exact .same | exact .c _ _ (.own _ _ rfl) | exact .c _ _ (.ptr _ _ _ _ rfl) | exact .c _ _ (.frz _ _ rfl) | exact .any _), (by exact .old 0 0 _ _ _ rfl rfl (.vars _ _ (by repeat (first | exact .nil | refine .cons _ _ _ _ (.any _) ?_))) (.old 1 1 _ _ _ rfl rfl (.vars _ _ (by repeat (first | exact .nil | refine .cons _ _ _ _ (.d _) ?_ | refine .cons _ _ _ _ (.own _ _ rfl) ?_))) (.old 2 704 _ _ _ rfl rfl (.data_eq (zkF thO hlt).symm) .nil))), (by rfl)⟩
    · have hie : i = l.length := by simp at h; omega
      have hBf : B = false := by
        rw [hB, List.any_eq_false]
        intro x hx
        obtain ⟨j, hj, e⟩ := List.mem_iff_getElem.1 hx
        have := hg j (by omega)
        rw [show l.getD j default = x from by rw [List.getD_eq_getElem?_getD, List.getElem?_eq_getElem hj, e]; rfl] at this
        rw [this]
        decide
      rw [if_neg (by rw [hBf]; decide), if_neg (by rw [hBf]; decide)]
      have hm : l.map thO = (l.take i).map thO := by rw [hie, List.take_length]
      rw [hm]
      show ARet _ _ _
      refine ⟨[], [], [((⟨g, Wd.zero.c, (l.take i).map thO, []⟩ : Wd)).tv, .int (0)], .cons _ _ _ _ (.agg _ _ ?_) (.cons _ _ _ _ .same .nil), .nil, rfl, rfl, rfl⟩
      repeat (first | exact .nil | refine .cons _ _ _ _ (.d _) ?_ | refine .cons _ _ _ _ (.nilsl _) ?_ | refine .cons _ _ _ _ (.frz _ _ rfl) ?_)
end Go.Abs
namespace Go.Abs
open Go.Proofs Go.Proofs.YtlankjlnnimdoaaGreatDoor
set_option maxRecDepth 60000
set_option maxHeartbeats 4000000
def zew (l:List (List Op)) (e:List Pair) (m:Int):Bool:=decide (l.length≤4) && (decide ((e.length:Int)≤m) && l.all fun x=>decide (x.length≤60))
theorem zhB (l:List (List Op)) (e:List Pair) (m:Int):Spec X 8 [] [.c (.d (.sl .opss l)),.c (.d (.sl .pair e)),.int m] (Ret [] (.bo (zew l e m))):=by
 refine zd X_ok Tryz.f8 (by kernel_rfl) (by kernel_rfl) (by kernel_rfl) fun hb hH=>⟨rfl,?_⟩
 unfold zew
 show ABr (bif decide ((l.length:Int) > 4) then true else decide ((e.length:Int) > m)) _ _
 by_cases h4:l.length≤4
 ·rw [decide_eq_false (show ¬ (l.length:Int) > 4 by omega),decide_eq_true h4]
  by_cases hm:(e.length:Int)≤m
  ·rw [show (bif false then true else decide ((e.length:Int) > m))=false from decide_eq_false (by omega),decide_eq_true hm]
   show ABr ..
   refine ⟨fun h=>absurd h (by decide),fun _=>?_⟩
   show ∃ n,_
   refine ⟨0,ALoop.inv (ι:={i:Nat // i≤l.length∧∀ j,j < i→(l.getD j default).length≤60}) (fun q=>⟨[(0,(.c (.d (.sl .opss l)))),(7,.int (q.1))],[],64⟩) (fun q=>l.length - q.1) ⟨0,Nat.zero_le _,fun j hj=>absurd hj (Nat.not_lt_zero j)⟩ ?_ ?_⟩
   ·exact ⟨[],(by repeat' first | exact .nil | refine .cons _ _ _ ?_ ?_ | exact .same | exact .c _ _ (.own _ _ rfl) | exact .c _ _ (.ptr _ _ _ _ rfl) | exact .c _ _ (.frz _ _ rfl) | exact .any _),(by exact .nil),(by rfl)⟩
   rintro ⟨i,hi,hg⟩
   show ABr (decide ((i:Int) < (l.length:Int))) _ _
   refine ⟨fun h=>?_,fun h=>?_⟩
   ·have hlt:i < l.length:=by simpa using h
    have wi:IntKind.i64.wrap ((i:Int)+1)=((i+1:Nat):Int):=zad (i:=i) (by unfold zD;omega)
    show AOb ..
    refine ⟨by exact ⟨Int.natCast_nonneg _,Int.ofNat_lt.2 hlt⟩,?_⟩
    show ABr (decide (((l.getD i default).length:Int) > 60)) _ _
    by_cases hx:(l.getD i default).length≤60
    ·rw [decide_eq_false (show ¬ ((l.getD i default).length:Int) > 60 by omega)]
     show ABr ..
     refine ⟨fun h=>absurd h (by decide),fun _=>?_⟩
     show ARound ..
     exact ⟨⟨i+1,hlt,fun j hj=>(Nat.lt_succ_iff_lt_or_eq.1 hj).elim (hg j) (fun k=>k ▸ hx)⟩,(by dsimp only;omega),[],(by repeat' first | exact .nil | refine .cons _ _ _ ?_ ?_ | exact .int_eq wi | exact .same | exact .c _ _ (.own _ _ rfl) | exact .c _ _ (.ptr _ _ _ _ rfl) | exact .c _ _ (.frz _ _ rfl) | exact .any _),(by exact .nil),(by rfl)⟩
    ·rw [decide_eq_true (show ((l.getD i default).length:Int) > 60 by omega)]
     show ABr ..
     refine ⟨fun _=>?_,fun h=>absurd h (by decide)⟩
     show ARet ..
     refine zw (x:=false) ?_ ⟨rfl,rfl⟩
     symm
     show (l.all fun x=>decide (x.length≤60))=false
     rw [List.all_eq_false]
     exact ⟨_,zcf hlt,by simpa using hx⟩
   ·have hie:i=l.length:=by simp at h;omega
    show ARet ..
    refine zw (x:=true) ?_ ⟨rfl,rfl⟩
    symm
    show (l.all fun x=>decide (x.length≤60))=true
    rw [List.all_eq_true]
    intro x hx
    obtain ⟨j,hj,e⟩:=List.mem_iff_getElem.1 hx
    have:=hg j (by omega)
    rw [show l.getD j default=x from by rw [List.getD_eq_getElem?_getD,List.getElem?_eq_getElem hj,e];rfl] at this
    exact decide_eq_true this
  ·rw [show (bif false then true else decide ((e.length:Int) > m))=true from decide_eq_true (by omega),decide_eq_false hm]
   show ABr ..
   refine ⟨fun _=>?_,fun h=>absurd h (by decide)⟩
   show ARet ..
   exact zi rfl ⟨rfl,rfl⟩
 ·rw [decide_eq_true (show (l.length:Int) > 4 by omega),decide_eq_false h4]
  show ABr true _ _
  show ABr ..
  refine ⟨fun _=>?_,fun h=>absurd h (by decide)⟩
  show ARet ..
  exact zi rfl ⟨rfl,rfl⟩
theorem zmu (w : Wd) (m : Bool) (hF : w.Fit) : Spec X 13 [] [w.tv, .bo m] (Ret [] (zbz w m).tv) := by
  refine zd X_ok Tryz.f13 (by kernel_rfl) (by kernel_rfl) (by kernel_rfl) fun hb hH => ⟨rfl, ?_⟩
  unfold zbz
  show ABr m _ _
  cases m with
  | true =>
    show ABr _ _ _
    refine ⟨fun _ => ?_, fun h => absurd h (by decide)⟩
    show ACall _ _ _ _ _ _
    refine za (zcD w ⟨3, 0⟩ hF) rfl ?_
    rw [if_pos rfl]
    generalize doW w ⟨3, 0⟩ = w'
    show ARet _ _ _
    refine ⟨[], [], [(w').tv], .cons _ _ _ _ (.agg _ _ ?_) .nil, .nil, rfl, rfl, rfl⟩
    repeat (first | exact .nil | refine .cons _ _ _ _ (.d _) ?_ | refine .cons _ _ _ _ (.nilsl _) ?_ | refine .cons _ _ _ _ (.frz _ _ rfl) ?_)
  | false =>
    show ABr _ _ _
    refine ⟨fun h => absurd h (by decide), fun _ => ?_⟩
    show ACall _ _ _ _ _ _
    refine za (zcD w ⟨2, 0⟩ hF) rfl ?_
    rw [if_neg (by decide)]
    generalize doW w ⟨2, 0⟩ = w'
    show ARet _ _ _
    refine ⟨[], [], [(w').tv], .cons _ _ _ _ (.agg _ _ ?_) .nil, .nil, rfl, rfl, rfl⟩
    repeat (first | exact .nil | refine .cons _ _ _ _ (.d _) ?_ | refine .cons _ _ _ _ (.nilsl _) ?_ | refine .cons _ _ _ _ (.frz _ _ rfl) ?_)
theorem zwH {ρ:List (Nat × Nat)} {h h' : zg} {k:EK} {l l' : List k.T} (e:l=l'):LeT ρ h h' (.c (.d (.sl k l))) (.c (.d (.sl k l'))):=e ▸ .c _ _ (.d _)
theorem zsm (w:Wd) (l:List Pair) (hl:l.length≤20000) (hF:∀ i,i≤l.length→(runW w (l.take i)).Fit):Spec X 23 [] [w.tv,.c (.d (.sl .pair l))] (Ret [] (.tup [(runW w l).tv,.any])):=by
 refine zd X_ok Tryz.f23 (by kernel_rfl) (by kernel_rfl) (by kernel_rfl) fun hb hH=>⟨rfl,?_⟩
 show ACall ..
 refine .mk _ (zlA w (hF 0 (Nat.zero_le _))) fun H r ⟨eH,er⟩ _ _=>⟨.inl rfl,?_⟩
 subst eH er
 have hmn:(if (20000:Int) < (l.length:Int) then (20000:Int) else (l.length:Int))=(l.length:Int):=if_neg (by omega)
 show AOb ((0:Int)≤(if (20000:Int) < (l.length:Int) then (20000:Int) else (l.length:Int))∧(if (20000:Int) < (l.length:Int) then (20000:Int) else (l.length:Int))≤_) _
 refine ⟨⟨by omega,by rw [hmn];exact Int.le_refl _⟩,?_⟩
 have hcut:l.take (if (20000:Int) < (l.length:Int) then (20000:Int) else (l.length:Int)).toNat=l:=by rw [hmn];exact List.take_length
 show ∃ n,_
 refine ⟨0,ALoop.inv (ι:={q:Nat × List Int // q.1≤l.length∧q.2.length=q.1}) (fun q=>⟨[(2,.c (.ptr 0 0 0)),(4,.c (.ptr 1 0 0)),(6,.c (.own 2)),(17,(.c (.d (.sl .pair l)))),(18,.int ((l.length:Int))),(19,.int ((q.1.1:Int)))],[(0,.vars ((runW w (l.take q.1.1)).cells.map .d)),(1,.vars (List.replicate 18 .any)),(2,.data .int q.1.2)],128⟩) (fun q=>l.length - q.1.1) ⟨(0,[]),Nat.zero_le _,rfl⟩ ?_ ?_⟩
 ·exact ⟨[(32,0),(64,1)],(by repeat' first | exact .nil | refine .cons _ _ _ ?_ ?_ | exact .c _ _ (.ptr _ _ _ _ rfl) | exact .c _ _ (.nilown 2 .int rfl rfl) | exact zwH (k:=.pair) hcut | exact .int_eq hmn | exact .int_eq (congrArg (fun x:List Pair=>(x.length:Int)) hcut) | exact .same | exact .c _ _ (.own _ _ rfl) | exact .c _ _ (.ptr _ _ _ _ rfl) | exact .c _ _ (.frz _ _ rfl) | exact .any _),(by exact .old 0 32 _ _ _ rfl rfl (.vars _ _ (by repeat (first | exact .nil | refine .cons _ _ _ _ (.d _) ?_ | refine .cons _ _ _ _ (.frz _ _ rfl) ?_))) (.old 1 64 _ _ _ rfl rfl (.vars _ _ (by repeat (first | exact .nil | refine .cons _ _ _ _ (.any _) ?_))) (.new 2 .int _ rfl .nil))),(by rfl)⟩
 rintro ⟨⟨i,es⟩,hi,he⟩
 show ABr (decide ((i:Int) < (l.length:Int))) _ _
 refine ⟨fun h=>?_,fun h=>?_⟩
 ·have hlt:i < l.length:=by simpa using h
  have wi:IntKind.i64.wrap ((i:Int)+1)=((i+1:Nat):Int):=zad (i:=i) (by unfold zD;omega)
  show AOb ..
  refine ⟨by exact ⟨Int.natCast_nonneg _,Int.ofNat_lt.2 hlt⟩,?_⟩
  show ACall ..
  refine za (zcD (runW w (l.take i)) (l.getD i default) (hF i (Nat.le_of_lt hlt))) rfl ?_
  show AOb (es.length+1≤most) _
  refine ⟨by have:es.length=i:=he;unfold most;omega,?_⟩
  have hn:=zh0 w hlt
  generalize doWE (runW w (l.take i)) (l.getD i default)=x
  rw [← hn]
  have hE:(es ++ [x]).length=i+1:=by rw [List.length_append,show es.length=i from he];rfl
  show ARound ..
  exact ⟨⟨(i+1,es ++ [x]),hlt,hE⟩,(by dsimp only;omega),[(0,0),(1,1),(736,2)],(by repeat' first | exact .nil | refine .cons _ _ _ ?_ ?_ | exact .c _ _ (.ptr _ _ _ _ rfl) | exact .int_eq wi | exact .same | exact .c _ _ (.own _ _ rfl) | exact .c _ _ (.ptr _ _ _ _ rfl) | exact .c _ _ (.frz _ _ rfl) | exact .any _),(by exact .old 0 0 _ _ _ rfl rfl (.vars _ _ (by repeat (first | exact .nil | refine .cons _ _ _ _ (.d _) ?_))) (.old 1 1 _ _ _ rfl rfl (.vars _ _ (by repeat (first | exact .nil | refine .cons _ _ _ _ (.any _) ?_))) (.old 2 736 _ _ _ rfl rfl (.data_eq rfl) .nil))),(by rfl)⟩
 ·have hie:i=l.length:=by simp at h;omega
  have hm:runW w l=runW w (l.take i):=by rw [hie,List.take_length]
  rw [hm]
  generalize runW w (l.take i)=w'
  show ARet ..
  refine ⟨[],[],[w'.tv,.any],.cons _ _ _ _ (.agg _ _ ?_) (.cons _ _ _ _ (.any _) .nil),.nil,rfl,rfl,rfl⟩
  repeat (first | exact .nil | refine .cons _ _ _ _ (.d _) ?_)
end Go.Abs
namespace Go.Abs
set_option maxRecDepth 8000
theorem zvk (w:Wd) (e:Pair):(doW w e).t.length=w.t.length:=by
 unfold doW
 split
 ·unfold doW1
  split
  ·unfold stepW
   split
   ·rfl
   ·split
    ·rfl
    ·split <;> exact List.length_set
  ·split
   ·rfl
   ·split
    ·unfold startW;split <;> rfl
    ·split
     ·unfold startW;split <;> rfl
     ·split
      ·unfold beginW
       split
       ·rfl
       ·split
        ·rfl
        ·exact List.length_set
      ·rfl
 ·rfl
def zc8 (w:Wd):Nat→Wd
 | 0=>w
 | k+1=>doW (zc8 w k) ⟨0,(k:Int)⟩
def zgy (w:Wd):Wd:=doW (zc8 w w.t.length) ⟨1,0⟩
def roundsW:Nat→Wd→Wd
 | 0,w=>w
 | k+1,w=>if w.c.phase≠0 then roundsW k (zgy w) else w
theorem zj6 (w:Wd):∀ k,(zc8 w k).t.length=w.t.length
 | 0=>rfl
 | k+1=>(zvk _ _).trans (zj6 w k)
end Go.Abs
