/- Where all threads have ended, and a major cycle has, no object is there, all pages are free, and no cell is on a list. No conditions: what class.words reads as is tied to the program's text. -/
import Derived.Test.YtlankjlnnimdoaaGreatDoorPa
import Derived.Test.YtlankjlnnimdoaaGreatDoorPk
set_option linter.all false
namespace Go.Proofs.YtlankjlnnimdoaaGreatDoor
open Go.ChangeShapes Go.WideShapes Go.ChangeAt Go.RowKit
abbrev lst:List (TypeId×(Abs.TV->Prop)):=[(3,zyo),(22,zvL),(23,ztF)]
theorem spec (ys:List Abs.TV) (h:Abs.Fits (lst.map (·.2)) ys):Abs.Spec Abs.X 3 [] ys (Abs.Ret [] (.bo true)):=by
 obtain⟨y0,r0,rfl,⟨a0,rfl,_⟩,h0⟩:=Abs.Fits.cons h
 obtain⟨y1,r1,rfl,⟨a1,rfl⟩,h1⟩:=Abs.Fits.cons h0
 obtain⟨y2,r2,rfl,⟨a2,rfl⟩,h2⟩:=Abs.Fits.cons h1
 obtain rfl:=Abs.Fits.nil h2
 exact Abs.TopEmpty_spec a0 a1 a2
set_option maxRecDepth 100000 in
theorem lifted (os:Os) (started:os.Started) (H:Type) (enc:TypeId×Value->H) :
  ReturnsInHanded {} Tryz.checked os 3 .any (fun w args=>(Rows.topEmptySpec.pre enc Tryz.prog Tryz.f3 Rows.topEmptyRow.domain false w args/\laidMetH Tryz.prog zrk w)/\sizedMet enc Tryz.prog Tryz.f3 (OpenSpec.ofChange Rows.topEmptySpec) false w args) (Rows.topEmptySpec.post enc Tryz.prog Tryz.f3 false true false false):=by
 refine returnsInHanded_of_change_and (C:=Tryz.checked) (X:=fun w _=>laidMetH Tryz.prog zrk w) (fun _ _ _ hh h=>h.of_heap hh) own started (by kernel_rfl) Tryz.func3
  (ChangeSpec.witness_shaped (enc:=enc) (C:=Tryz.checked) (os:=os) (X:=fun w _=>laidMetH Tryz.prog zrk w) false (World.doorLaid Tryz.prog 400 os) #[.int .i64 0,.slice none 0 0,.slice none 0 0] 20 rfl (World.shaped_of_RefB (by kernel_rfl) (by kernel_rfl)) (by kernel_rfl) (by kernel_rfl) (by kernel_rfl) (zvx os _)) ?_
 intro W base args ds gs before hval0 hW _ hsz0 hL _
 have hsz:(DataW.weightsEach Tryz.prog (Tryz.f3.params.toList++Rows.topEmptySpec.plain.varTypes Tryz.prog) (ds++gs)).all (·<=reachBytes)=true:=hsz0
 clear hsz0
 have hval:∀(j:Nat) t v,Tryz.f3.params.toList[j]? = some t->args[j]? = some v->Value.okWide Tryz.prog W .any base t v:=fun j t v h=>hval0 j t v (by simpa using h)
 have hW':=hW
 obtain⟨p,q,hA0,hV,rfl,_,_⟩:=hW
 have hA:DataW.TrodAll enc Tryz.prog W 0 (fun _=>true) true Tryz.f3.params.toList args.toList ds p:=hA0
 rw[Tryz.params3]at hA hval hsz
 obtain⟨rfl,rfl⟩:=trodVars_none hV
 simp only[List.append_nil]at hW'
 have hlt:∀x∈p,x.block<W.heap.size:=fun x hx=>by simpa using hW'.lt x hx
 refine(Abs.law_goes_g (X:=Abs.X) lst (by
  intro x hx
  simp only[lst,List.mem_cons,List.not_mem_nil,or_false]at hx
  rcases hx with rfl|rfl|rfl
  ·exact zyY
  ·exact zyg
  ·exact zxh) spec zxR (by decide +kernel) (zxD hL) rfl rfl hval hA hsz hlt).mono ?_
 rintro e W' ⟨he,bel,hA'⟩
 subst he
 obtain⟨v0,vs0,d0,ds0,p0,q0,hargs,rfl,rfl,g0,r0⟩:=trodAll_cons hA
 obtain⟨v1,vs1,d1,ds1,p1,q1,rfl,rfl,rfl,g1,r1⟩:=trodAll_cons r0
 obtain⟨v2,vs2,d2,ds2,p2,q2,rfl,rfl,rfl,g2,r2⟩:=trodAll_cons r1
 obtain⟨rfl,rfl,rfl⟩:=trodAll_nil r2
 exact⟨_,rfl,_,_,_,[],_,[],hW',trodAll_mk1 (shut_bool Tryz.underlying4 _),hA',rfl,bel.frame _,fun h=>by cases h⟩
theorem closed:joinedFacts Tryz.pinned.checked.prog 3 Tryz.f3 Rows.topEmptySpec Rows.topEmptyRow=true:=by
 unfold joinedFacts
 exact zh1 (zh1 (zh1 (zh1 (zh1 (zh1 (zh1 (by kernel_rfl) zyN) zyJ) zzE) (by kernel_rfl)) (by kernel_rfl)) (by kernel_rfl)) (by kernel_rfl)
theorem over:Rows.topEmptyRow.holds Tryz.pinned (OpenSpec.ofChange Rows.topEmptySpec):=
 OpenClaim.holds_of_wide 3 Tryz.f3 rfl rfl rfl rfl rfl rfl rfl ⟨rfl,rfl,rfl,rfl,rfl⟩ rfl rfl rfl rfl rfl (by kernel_rfl) Tryz.func3 (closed)
  (of_decide_eq_true (by kernel_rfl)) (by unfold Func.isWrapper;first|(rw[if_pos (by decide +kernel)];kernel_rfl)|(rw[if_neg (by decide +kernel)];exact⟨rfl,rfl⟩))
  (fun os started H enc _=>lifted os started H enc)
theorem proved:Rows.TopEmptyCardSaid:=
 Claim7.holds_tied_plain_at .later [] [.widerDeep] true Rows.topEmptyCard.stood.harness false
  over (fun _ h=>by cases h) (by kernel_rfl) (fun _ h=>by cases h) topEmpty_row_tie rfl ⟨rfl,rfl⟩ zzx rfl
  (fun f fn hf hfn=>by
   obtain rfl:f=3:=Option.some.inj ((show Tryz.prog.funcNamed "ragpicker/ragpickertop.TopEmpty" = some 3 by kernel_rfl).symm.trans hf) |>.symm
   obtain rfl:fn=Tryz.f3:=(Option.some.inj (Tryz.func3.symm.trans hfn)).symm
   exact⟨zyG,fun j t ht=>by
    rw[Tryz.params3]at ht
    have hm:t∈[3,22,23]:=by simpa using Array.mem_of_getElem? ht
    have hall:([3,22,23].all fun u=>!Tryz.prog.wantsStandIn u)=true:=by kernel_rfl
    exact(show Tryz.prog.wantsStandIn t=false by simpa using List.all_eq_true.1 hall t hm)⟩)
  (by kernel_rfl)
end Go.Proofs.YtlankjlnnimdoaaGreatDoor
